/-
  Texts of a proof, one behind the other (each with its own head).
-/
import Derived.Test.YtjdffhonljhpcaaGreatPartDokcpcbla
import Derived.Defers
import Derived.Test.YtjdffhonljhpcaaGreatProg
import Derived.Shelf.SlLaysF0
import Derived.Shelf.SlGeneric
import Derived.Shelf.SlSortCmp.WholeK
import Derived.Shelf.SlSortCmp.NoneTotal
section
/-
  The contract of eval.Eval: what a node comes to in a row.
-/
namespace Go.Proofs.YtjdffhonljhpcaaGreat
set_option linter.unusedSimpArgs false
set_option linter.unusedVariables false
open Go.RowKit

section
theorem nd_one (n : Nd) : ∀ u ∈ n.cells, u.oneCell' = true := eNd.one n
theorem nd_zero (W : World) : (zeroValue 27).run Tryz.prog W = .ok Nd.nil.v W := (zero_of_info (P := Tryz.prog) (t := 27) (v := Nd.nil.v) (n := 10) (by kernel_rfl)).1 W
theorem nd_info : (Tryz.prog.info? 27).map (·.size) = some 10 := by kernel_rfl
variable {w : World} {ops : Array Oper} {rest : List Oper} {o : Oper} {a : Act} {Q : Exit → Act → World → Prop}
theorem wpList_alloc_nd (hgd : o.guard = none) (hop : o.op = .alloc 27)
    (h : ∀ W, Blk W w.heap.size 27 Nd.nil.cells → w.heap.size + 1 ≤ W.heap.size → Below w.heap.size w W → wpList Tryz.prog ops Q rest (a.put o.dst (.pointer (some ⟨w.heap.size, 0, none⟩))) W) : wpList Tryz.prog ops Q (o :: rest) a w :=
  wpList_alloc_z hgd 27 hop (nd_zero _) fun W hW => by
    obtain ⟨h1, h2, h3⟩ := fresh1 (a := Nd.nil.cells) hW
    exact h W h1 h2 h3
theorem wpList_store_nd (hgd : o.guard = none) (hod : o.dst = none) (x y : Operand) (hop : o.op = .store 27 x y) (g : Nat) (hx : a.eval x = .pointer (some ⟨g, 0, none⟩)) (b : Nd) (hy : a.eval y = b.v) {T0 : TypeId} {old : Nd} (hb : Blk w g T0 old.cells)
    (h : ∀ W, Blk W g T0 b.cells → w.grownBy W (some g) → wpList Tryz.prog ops Q rest a W) : wpList Tryz.prog ops Q (o :: rest) a w :=
  wpList_store_blk hgd hod 27 x y hop g hx b.cells hy hb rfl nd_info (nd_one b) h
theorem wpList_load_nd (hgd : o.guard = none) (x : Operand) (hop : o.op = .load 27 x) (g : Nat) (hx : a.eval x = .pointer (some ⟨g, 0, none⟩)) {T0 : TypeId} {b : Nd} (hb : Blk w g T0 b.cells)
    (h : wpList Tryz.prog ops Q rest (a.put o.dst b.v) w) : wpList Tryz.prog ops Q (o :: rest) a w :=
  wpList_load_mid hgd 27 x hop g 0 hx b.cells _ (hb.range 0 b.cells fun j _ => by rw [Nat.zero_add]) Tryz.underlying27 rfl nd_info h
theorem wpList_load_nd_at (hgd : o.guard = none) (x : Operand) (hop : o.op = .load 27 x) {b off : Nat} {L : List Nd} (hr : ERow eNd w (some ⟨b, off, none⟩) L) {j : Nat} (hj : j < L.length) (hx : a.eval x = .pointer (some ⟨b, off + j * 10, none⟩))
    (h : wpList Tryz.prog ops Q rest (a.put o.dst L[j].v) w) : wpList Tryz.prog ops Q (o :: rest) a w := by
  obtain ⟨b', off', e, hb, hrg⟩ := hr.range hj
  cases e
  exact wpList_load_mid hgd 27 x hop b (off + j * 10) hx L[j].cells _ hrg Tryz.underlying27 rfl nd_info h
theorem wpList_box_nd (hgd : o.guard = none) (x : Operand) (hop : o.op = .box 27 x) (b : Nd) (hx : a.eval x = b.v)
    (h : ∀ W, Blk W w.heap.size 27 b.cells → w.heap.size + 1 ≤ W.heap.size → Below w.heap.size w W → wpList Tryz.prog ops Q rest (a.put o.dst (.pointer (some ⟨w.heap.size, 0, none⟩))) W) : wpList Tryz.prog ops Q (o :: rest) a w :=
  wpList_plain hgd fun _ hK => by
    unfold Oper.wp execOp
    have e : (Instr.box 27 b.v).run Tryz.prog w = .ok (.pointer (some ⟨w.heap.size, 0, none⟩)) (w.alloc (.cells b.cells.toArray 27)) := by
      simp [Instr.box, Sem.run_bind, newVar, newRow]
      rfl
    simp only [hop, hx, Sem.run_bind, e, Result.andThen_ok, Sem.run_pure]
    obtain ⟨h1, h2, h3⟩ := fresh1 (w := w) (a := b.cells) (t := 27) rfl
    exact hK _ _ (h _ h1 h2 h3)
theorem Blk.c10 {w : World} {g : Nat} {t : TypeId} {a b c d e f i j k l : Value} (h : Blk w g t [a, b, c, d, e, f, i, j, k, l]) :
    w.cell? ⟨g, 0, none⟩ = some a ∧ w.cell? ⟨g, 1, none⟩ = some b ∧ w.cell? ⟨g, 2, none⟩ = some c ∧ w.cell? ⟨g, 3, none⟩ = some d ∧ w.cell? ⟨g, 4, none⟩ = some e ∧ w.cell? ⟨g, 5, none⟩ = some f ∧ w.cell? ⟨g, 6, none⟩ = some i ∧ w.cell? ⟨g, 7, none⟩ = some j ∧ w.cell? ⟨g, 8, none⟩ = some k ∧ w.cell? ⟨g, 9, none⟩ = some l ∧ g < w.heap.size :=
  ⟨h.cell 0, h.cell 1, h.cell 2, h.cell 3, h.cell 4, h.cell 5, h.cell 6, h.cell 7, h.cell 8, h.cell 9, h.lt⟩
end
theorem wpList_load_lit {w : World} {ops : Array Oper} {rest : List Oper} {o : Oper} {a : Act} {Q : Exit → Act → World → Prop} (hgd : o.guard = none) (x : Operand) (hop : o.op = .load 24 x) (g : Nat) (hx : a.eval x = .pointer (some ⟨g, 2, none⟩)) {T0 : TypeId} {b : Nd} (hb : Blk w g T0 b.cells)
    (h : wpList Tryz.prog ops Q rest (a.put o.dst b.lit.v) w) : wpList Tryz.prog ops Q (o :: rest) a w :=
  wpList_load_mid hgd 24 x hop g 2 hx b.lit.cells _ (hb.range 2 b.lit.cells fun j hj => by
    have : j < 4 := hj
    rcases (show j = 0 ∨ j = 1 ∨ j = 2 ∨ j = 3 by omega) with rfl | rfl | rfl | rfl <;> rfl) Tryz.underlying24 rfl va_info h
theorem va_field0 (v : Va) (w : World) : (Instr.field 24 v.v 0).run Tryz.prog w = .ok (.int .i64 v.k) w := by kernel_rfl
/-- What eval.Eval answers of a node, in all worlds behind w. -/
def EvalsTo (w : World) (R : Option Addr) (rc : Nat) (row : List Va) (n : Nd) : Prop :=
  ∀ W, Below w.heap.size w W → Calls Tryz.prog 79 #[n.v, .slice R row.length rc] W (RetV W (Ev.eval row n))
set_option maxRecDepth 20000 in
set_option maxHeartbeats 4000000 in
theorem earg_any (w : World) (R : Option Addr) (rc : Nat) (row : List Va) (n : Nd) (hr : ERow eNd w n.a n.args) (hc : n.args.length ≤ n.c) (hm : n.c ≤ maxLen) (ih : ∀ m ∈ n.args, EvalsTo w R rc row m)
    (W : World) (hB : Below w.heap.size w W) (gn gr : Nat) (T : TypeId) (hn : Blk W gn T n.cells) (hrr : Blk W gr 136 [.slice R row.length rc]) (i : Nat) (hi : i < 2) :
    Calls Tryz.prog 89 #[.int .i64 i, .pointer (some ⟨gn, 0, none⟩), .pointer (some ⟨gr, 0, none⟩)] W (RetV W (Ev.nth (Ev.evalL row n.args) i)) := by
  have HV := Lib.hid (Ev.evalL_get row n.args i)
  have HR := Lib.hid (hr.below hB)
  have HIH := Lib.hid ih
  have HBW := Lib.hid hB
  clear hr ih hB
  have hcm : n.args.length ≤ 9223372036854775807 := by unfold maxLen at hm; omega
  go_enter Tryz.func89, Tryz.ntmps89
  go_upto_region 1 with (refine wpList_alloc_va rfl rfl ?_; intro W1 hb1 hz1 hB1)
  have hn1 := hn.below hB1
  have hr1 := hrr.below hB1
  have HB1 := Lib.hid hB1
  have HR1 := Lib.hid (HR.out.below hB1)
  clear hn hrr hB1 HR
  obtain ⟨-, -, -, -, -, -, -, -, -, c9, -⟩ := Blk.c10 hn1
  have d0 := hr1.cell 0
  simp only [List.getElem?_cons_zero] at d0
  by_cases hlt : i < n.args.length
  · have hii : (i : Int) < (n.args.length : Int) := by omega
    have HV2 : Hid (Ev.nth (Ev.evalL row n.args) i = Ev.eval row n.args[i]) := by show _ = _; rw [HV.out, dif_pos hlt]
    have HE := Lib.hid (HIH.out n.args[i] (List.getElem_mem hlt))
    go_upto_region 2 with fail
    obtain ⟨bb, oo, ha, hbl, -⟩ := HR1.out.at_ hlt
    have HR2 : Hid (ERow eNd W1.drew (some ⟨bb, oo, none⟩) n.args) := by show ERow _ _ _ _; rw [← ha]; exact HR1.out.below (Below.refl W1.heap.size W1).drewR
    rw [ha] at c9 ⊢
    clear ha hbl
    have hb1d := hb1.drew
    have HBD := Lib.hid (HBW.out.then (HB1.out.drewR))
    refine wp_region_plan (.take 0 (.take 1 (.take 2 (.take 3 (.take 4 (.take 5 (.run 6 [] (.run 7 [] .fin)))))))) (by kernel_rfl) (by kernel_rfl) (by kernel_rfl) (by kernel_rfl) ?_
    repeat' (first | (refine hZ _ _ ?_; clear hZ) | (refine hZ _ ?_; clear hZ) | (refine hZ ?_; clear hZ) | rw [again_nil] | rw [walk_fin] | ((first | rw [walk_take] | rw [walk_run] | rw [again_cons]); intro Z hZ; simp only [sel, List.getElem?_toArray, List.getElem?_cons_zero, List.getElem?_cons_succ]; go_wp2_with (refine wpList_load_nd_at rfl (.tmp 13) rfl HR2.out hlt rfl ?_)))
    refine (HE.out _ HBD.out).mono ?_
    rintro e W2 ⟨rfl, hB2⟩
    have hb2 := hb1d.below hB2
    have HB2 := Lib.hid (HB1.out.drewR.trans (hB2.mono HB1.out.size))
    clear hB2 hb1d hb1
    generalize Ev.eval row n.args[i] = d at HV2 ⊢
    go_wp2_with fail
    repeat' (first | (refine hZ _ _ ?_; clear hZ) | (refine hZ _ ?_; clear hZ) | (refine hZ ?_; clear hZ) | rw [again_nil] | rw [walk_fin] | ((first | rw [walk_take] | rw [walk_run] | rw [again_cons]); intro Z hZ; simp only [sel, List.getElem?_toArray, List.getElem?_cons_zero, List.getElem?_cons_succ]; go_wp2_with (refine wpList_store_va rfl rfl (.tmp 4) (.tmp 16) rfl W.heap.size rfl d rfl hb2 ?_; intro W4 hb4 hg4)))
    go_wp2_with fail
    exact ret_va hb4 rfl rfl rfl ⟨by rw [HV2.out], below_of_grown HB2.out hg4 (Nat.le_refl _) HB2.out.size⟩
  · have hii : ¬ (i : Int) < (n.args.length : Int) := by omega
    have HV2 : Hid (Ev.nth (Ev.evalL row n.args) i = Key.nul) := by show _ = _; rw [HV.out, dif_neg hlt]
    go_wp2_with (refine wpList_store_va rfl rfl (.tmp 4) (.tmp 17) rfl W.heap.size rfl Key.nul rfl hb1 ?_; intro W4 hb4 hg4)
    exact ret_va hb4 rfl rfl rfl ⟨by rw [HV2.out], below_of_grown HB1.out hg4 (Nat.le_refl _) HB1.out.size⟩
set_option maxRecDepth 100000 in
set_option maxHeartbeats 16000000 in
theorem eval_any (w : World) (R : Option Addr) (rc : Nat) (row : List Va) (hrow : ERow eVa w R row) (hok : ∀ v ∈ row, v.ok) (hlen : row.length ≤ 9223372036854775807) (n : Nd) (hn : NodeIn w n) : EvalsTo w R rc row n := by
  have HROW := Lib.hid hrow
  have HOK := Lib.hid hok
  have HLEN := Lib.hid hlen
  clear hrow hok hlen
  induction hn with
  | @mk n hr hin hlit hls hk hat hc hm ih =>
  have HVO := Lib.hid (Ev.evalL_ok HOK.out (NodeIn.mk hr hin hlit hls hk hat hc hm))
  have HARG := Lib.hid (fun W hB gn gr T hn hrr i hi => earg_any w R rc row n hr hc hm ih W hB gn gr T hn hrr i hi)
  have HLIT := Lib.hid hlit
  have HVE := Lib.hid (Ev.eval_eq row n)
  clear hr hin hlit hls hk hat hc hm ih
  intro W hB
  have HB := Lib.hid hB
  clear hB
  have hmf : ∀ (fn : Fn) (first cap : Array Value) (w : World), (Instr.makeFunc fn first cap).run Tryz.prog w = .ok (.func fn first cap) w := fun _ _ _ _ => rfl
  generalize Ev.evalL row n.args = vs at HVO HARG HVE
  go_enter Tryz.func79, Tryz.ntmps79
  go_upto_region 1 with (first | (refine wpList_box_nd rfl (.tmp 0) rfl n rfl ?_; intro W1 hb1 hz1 hB1) | (refine wpList_alloc_va rfl rfl ?_; intro W3 hb3 hz3 hB3))
  obtain ⟨ba, hz2, hB2⟩ := fresh1 (w := W1) (a := [.slice R row.length rc]) (t := 136) rfl
  have h1 := (hb1.below hB2).below hB3
  have h2 := ba.below hB3
  have h4 := hb3
  have HB3 := Lib.hid ((hB1.then hB2).then hB3)
  have hg1 : W.heap.size < W1.heap.size := by omega
  have hg2 : W1.heap.size < (W1.alloc (.cells #[.slice R row.length rc] 136)).heap.size := by simp
  clear hb1 hB1 ba hB2 hz2 hb3 hB3 hz3 hz1
  generalize (World.alloc W1 _).heap.size = g at h4 hg2 ⊢
  generalize W1.heap.size = gr at h2 hg1 hg2 ⊢
  have hgw : W.heap.size ≤ W.heap.size := Nat.le_refl _
  clear W1
  obtain ⟨c0, c1, -, -, -, -, c6, c7, -, -, -⟩ := Blk.c10 h1
  have d0 := h2.cell 0
  simp only [List.getElem?_cons_zero] at d0
  have HBW := Lib.hid (HB.out.then HB3.out)
  clear HB
  by_cases k1 : n.k = 1
  · have HV : Hid (Ev.eval row n = Key.clean n.lit) := by show _ = _; rw [HVE.out]; unfold Ev.evalK; rw [if_pos k1]
    rw [k1] at c0
    clear k1 HVE
    go_wp2_with (refine wpList_load_lit rfl (.tmp 11) rfl W.heap.size rfl h1 ?_)
    refine (clean_any _ n.lit HLIT.out).mono ?_
    rintro e W5 ⟨rfl, hB5⟩
    have h4 := h4.below hB5
    have HB5 := Lib.hid (HB3.out.then hB5)
    clear hB5 HB3
    generalize Key.clean n.lit = d at HV ⊢
    go_wp2_with (refine wpList_store_va rfl rfl (.tmp 4) (.tmp 13) rfl g rfl d rfl h4 ?_; intro Wa hba hga)
    exact ret_va hba rfl rfl rfl ⟨by rw [HV.out], below_of_grown HB5.out hga (by omega) HB5.out.size⟩
  by_cases k2 : n.k = 2
  · have HVC : Hid (Ev.eval row n = if 0 ≤ n.at_ ∧ n.at_ < (row.length : Int) then Key.clean (Ev.nth row n.at_.toNat) else Key.nul) := by show _ = _; rw [HVE.out]; unfold Ev.evalK; rw [if_neg k1, if_pos k2]
    rw [k2] at c0
    clear k1 k2 HVE
    by_cases ha0 : 0 ≤ n.at_
    · by_cases hal : n.at_ < (row.length : Int)
      · obtain ⟨j, hj⟩ := Int.eq_ofNat_of_zero_le ha0
        have hjl : j < row.length := by omega
        have HV : Hid (Ev.eval row n = Key.clean row[j]) := by
          show _ = _
          rw [HVC.out, if_pos ⟨ha0, hal⟩, hj]
          unfold Ev.nth
          simp [List.getD, hjl]
        rw [hj] at c6
        have hji : (j : Int) < (row.length : Int) := by omega
        have HRW := Lib.hid (HROW.out.below HBW.out)
        have HOJ := Lib.hid (HOK.out row[j] (List.getElem_mem hjl))
        obtain ⟨bb, oo, rfl, hbl, -⟩ := HRW.out.at_ hjl
        clear hj hal ha0 HVC hbl
        have hlen := HLEN.out
        go_wp2_with (refine wpList_load_va_at rfl (.tmp 29) rfl HRW.out hjl rfl ?_)
        refine (clean_any _ row[j] HOJ.out).mono ?_
        rintro e W5 ⟨rfl, hB5⟩
        have h4 := h4.below hB5
        have HB5 := Lib.hid (HB3.out.then hB5)
        clear hB5 HB3
        generalize Key.clean row[j] = d at HV ⊢
        go_wp2_with (refine wpList_store_va rfl rfl (.tmp 4) (.tmp 31) rfl g rfl d rfl h4 ?_; intro Wa hba hga)
        exact ret_va hba rfl rfl rfl ⟨by rw [HV.out], below_of_grown HB5.out hga (by omega) HB5.out.size⟩
      · have HV : Hid (Ev.eval row n = Key.nul) := by show _ = _; rw [HVC.out, if_neg (fun h => hal h.2)]
        clear HVC
        go_wp2_with (refine wpList_store_va rfl rfl (.tmp 4) (.tmp 84) rfl g rfl Key.nul rfl h4 ?_; intro Wa hba hga)
        exact ret_va hba rfl rfl rfl ⟨by rw [HV.out], below_of_grown HB3.out hga (by omega) HB3.out.size⟩
    · have HV : Hid (Ev.eval row n = Key.nul) := by show _ = _; rw [HVC.out, if_neg (fun h => ha0 h.1)]
      clear HVC
      go_wp2_with (refine wpList_store_va rfl rfl (.tmp 4) (.tmp 84) rfl g rfl Key.nul rfl h4 ?_; intro Wa hba hga)
      exact ret_va hba rfl rfl rfl ⟨by rw [HV.out], below_of_grown HB3.out hga (by omega) HB3.out.size⟩
  by_cases k3 : n.k = 3
  · have HV : Hid (Ev.eval row n = Ev.negV (Ev.nth vs 0)) := by show _ = _; rw [HVE.out]; unfold Ev.evalK; rw [if_neg k1, if_neg k2, if_pos k3]
    rw [k3] at c0
    clear k1 k2 k3 HVE c6 c1 c7
    go_wp2_with fail
    refine (HARG.out _ HBW.out W.heap.size gr _ h1 h2 0 (by decide)).mono ?_
    rintro e W4 ⟨rfl, hB4⟩
    have h1 := h1.below hB4
    have h2 := h2.below hB4
    have h4 := h4.below hB4
    have HB3 := Lib.hid (HB3.out.then hB4)
    have HBW := Lib.hid (HBW.out.then hB4)
    clear hB4
    have HO0 := Lib.hid (Ev.nth_ok HVO.out 0)
    generalize Ev.nth vs 0 = x0 at HV HO0 ⊢
    go_wp2_with fail
    refine (vneg_any _ x0 HO0.out).mono ?_
    rintro e W5 ⟨rfl, hB5⟩
    have h4 := h4.below hB5
    have HB5 := Lib.hid (HB3.out.then hB5)
    clear hB5 HB3
    generalize Ev.negV x0 = d at HV ⊢
    go_wp2_with (refine wpList_store_va rfl rfl (.tmp 4) (.tmp 36) rfl g rfl d rfl h4 ?_; intro Wa hba hga)
    exact ret_va hba rfl rfl rfl ⟨by rw [HV.out], below_of_grown HB5.out hga (by omega) HB5.out.size⟩
  by_cases k4 : n.k = 4
  · have HV : Hid (Ev.eval row n = Ev.notV (Ev.nth vs 0)) := by show _ = _; rw [HVE.out]; unfold Ev.evalK; rw [if_neg k1, if_neg k2, if_neg k3, if_pos k4]
    rw [k4] at c0
    clear k1 k2 k3 k4 HVE c6 c1 c7
    go_wp2_with fail
    refine (HARG.out _ HBW.out W.heap.size gr _ h1 h2 0 (by decide)).mono ?_
    rintro e W4 ⟨rfl, hB4⟩
    have h1 := h1.below hB4
    have h2 := h2.below hB4
    have h4 := h4.below hB4
    have HB3 := Lib.hid (HB3.out.then hB4)
    have HBW := Lib.hid (HBW.out.then hB4)
    clear hB4
    have HO0 := Lib.hid (Ev.nth_ok HVO.out 0)
    generalize Ev.nth vs 0 = x0 at HV HO0 ⊢
    go_wp2_with fail
    refine (vnot_any _ x0).mono ?_
    rintro e W5 ⟨rfl, hB5⟩
    have h4 := h4.below hB5
    have HB5 := Lib.hid (HB3.out.then hB5)
    clear hB5 HB3
    generalize Ev.notV x0 = d at HV ⊢
    go_wp2_with (refine wpList_store_va rfl rfl (.tmp 4) (.tmp 41) rfl g rfl d rfl h4 ?_; intro Wa hba hga)
    exact ret_va hba rfl rfl rfl ⟨by rw [HV.out], below_of_grown HB5.out hga (by omega) HB5.out.size⟩
  by_cases k5 : n.k = 5
  · have HV : Hid (Ev.eval row n = Ev.andV (Ev.nth vs 0) (Ev.nth vs 1)) := by show _ = _; rw [HVE.out]; unfold Ev.evalK; rw [if_neg k1, if_neg k2, if_neg k3, if_neg k4, if_pos k5]
    rw [k5] at c0
    clear k1 k2 k3 k4 k5 HVE c6 c1 c7
    go_wp2_with fail
    refine (HARG.out _ HBW.out W.heap.size gr _ h1 h2 0 (by decide)).mono ?_
    rintro e W4 ⟨rfl, hB4⟩
    have h1 := h1.below hB4
    have h2 := h2.below hB4
    have h4 := h4.below hB4
    have HB3 := Lib.hid (HB3.out.then hB4)
    have HBW := Lib.hid (HBW.out.then hB4)
    clear hB4
    have HO0 := Lib.hid (Ev.nth_ok HVO.out 0)
    generalize Ev.nth vs 0 = x0 at HV HO0 ⊢
    go_wp2_with fail
    refine (HARG.out _ HBW.out W.heap.size gr _ h1 h2 1 (by decide)).mono ?_
    rintro e W6 ⟨rfl, hB4⟩
    have h1 := h1.below hB4
    have h2 := h2.below hB4
    have h4 := h4.below hB4
    have HB3 := Lib.hid (HB3.out.then hB4)
    have HBW := Lib.hid (HBW.out.then hB4)
    clear hB4
    have HO1 := Lib.hid (Ev.nth_ok HVO.out 1)
    generalize Ev.nth vs 1 = x1 at HV HO1 ⊢
    go_wp2_with fail
    refine (vand_any _ x0 x1).mono ?_
    rintro e W5 ⟨rfl, hB5⟩
    have h4 := h4.below hB5
    have HB5 := Lib.hid (HB3.out.then hB5)
    clear hB5 HB3
    generalize Ev.andV x0 x1 = d at HV ⊢
    go_wp2_with (refine wpList_store_va rfl rfl (.tmp 4) (.tmp 48) rfl g rfl d rfl h4 ?_; intro Wa hba hga)
    exact ret_va hba rfl rfl rfl ⟨by rw [HV.out], below_of_grown HB5.out hga (by omega) HB5.out.size⟩
  by_cases k6 : n.k = 6
  · have HV : Hid (Ev.eval row n = Ev.orV (Ev.nth vs 0) (Ev.nth vs 1)) := by show _ = _; rw [HVE.out]; unfold Ev.evalK; rw [if_neg k1, if_neg k2, if_neg k3, if_neg k4, if_neg k5, if_pos k6]
    rw [k6] at c0
    clear k1 k2 k3 k4 k5 k6 HVE c6 c1 c7
    go_wp2_with fail
    refine (HARG.out _ HBW.out W.heap.size gr _ h1 h2 0 (by decide)).mono ?_
    rintro e W4 ⟨rfl, hB4⟩
    have h1 := h1.below hB4
    have h2 := h2.below hB4
    have h4 := h4.below hB4
    have HB3 := Lib.hid (HB3.out.then hB4)
    have HBW := Lib.hid (HBW.out.then hB4)
    clear hB4
    have HO0 := Lib.hid (Ev.nth_ok HVO.out 0)
    generalize Ev.nth vs 0 = x0 at HV HO0 ⊢
    go_wp2_with fail
    refine (HARG.out _ HBW.out W.heap.size gr _ h1 h2 1 (by decide)).mono ?_
    rintro e W6 ⟨rfl, hB4⟩
    have h1 := h1.below hB4
    have h2 := h2.below hB4
    have h4 := h4.below hB4
    have HB3 := Lib.hid (HB3.out.then hB4)
    have HBW := Lib.hid (HBW.out.then hB4)
    clear hB4
    have HO1 := Lib.hid (Ev.nth_ok HVO.out 1)
    generalize Ev.nth vs 1 = x1 at HV HO1 ⊢
    go_wp2_with fail
    refine (vor_any _ x0 x1).mono ?_
    rintro e W5 ⟨rfl, hB5⟩
    have h4 := h4.below hB5
    have HB5 := Lib.hid (HB3.out.then hB5)
    clear hB5 HB3
    generalize Ev.orV x0 x1 = d at HV ⊢
    go_wp2_with (refine wpList_store_va rfl rfl (.tmp 4) (.tmp 55) rfl g rfl d rfl h4 ?_; intro Wa hba hga)
    exact ret_va hba rfl rfl rfl ⟨by rw [HV.out], below_of_grown HB5.out hga (by omega) HB5.out.size⟩
  by_cases k7 : n.k = 7
  · have HV : Hid (Ev.eval row n = Ev.cmpV n.op (Ev.nth vs 0) (Ev.nth vs 1)) := by show _ = _; rw [HVE.out]; unfold Ev.evalK; rw [if_neg k1, if_neg k2, if_neg k3, if_neg k4, if_neg k5, if_neg k6, if_pos k7]
    rw [k7] at c0
    clear k1 k2 k3 k4 k5 k6 k7 HVE c6 c7
    go_upto_region 17 with fail
    clear c0 c1
    have h1 := h1.drew
    have h2 := h2.drew
    have h4 := h4.drew
    have HB3 := Lib.hid (HB3.out.drewR)
    have HBW := Lib.hid (HBW.out.drewR)
    clear d0
    obtain ⟨-, e1, -, -, -, -, -, e7, -, -, -⟩ := Blk.c10 h1
    refine wp_region_plan (.take 0 (.take 1 (.take 2 (.take 4 (.run 3 [0, 1, 4] (.run 5 [0, 1] (.run 6 [] (.run 7 [] .fin)))))))) (by kernel_rfl) (by kernel_rfl) (by kernel_rfl) (by kernel_rfl) ?_
    clear e7
    repeat' (first | (refine hZ _ _ ?_; clear hZ) | (refine hZ _ ?_; clear hZ) | (refine hZ ?_; clear hZ) | rw [again_nil] | rw [walk_fin] | ((first | rw [walk_take] | rw [walk_run] | rw [again_cons]); intro Z hZ; simp only [sel, List.getElem?_toArray, List.getElem?_cons_zero, List.getElem?_cons_succ]; go_wp2_with (fail)))
    refine (HARG.out _ HBW.out W.heap.size gr _ h1 h2 0 (by decide)).mono ?_
    rintro e W4 ⟨rfl, hB4⟩
    have h1 := h1.below hB4
    have h2 := h2.below hB4
    have h4 := h4.below hB4
    have HB3 := Lib.hid (HB3.out.trans (hB4.mono HB3.out.size))
    have HBW := Lib.hid (HBW.out.trans (hB4.mono HBW.out.size))
    clear hB4 e1
    obtain ⟨-, e1, -, -, -, -, -, -, -, -, -⟩ := Blk.c10 h1
    have HO0 := Lib.hid (Ev.nth_ok HVO.out 0)
    generalize Ev.nth vs 0 = x0 at HV HO0 ⊢
    go_wp2_with fail
    repeat' (first | (refine hZ _ _ ?_; clear hZ) | (refine hZ _ ?_; clear hZ) | (refine hZ ?_; clear hZ) | rw [again_nil] | rw [walk_fin] | ((first | rw [walk_take] | rw [walk_run] | rw [again_cons]); intro Z hZ; simp only [sel, List.getElem?_toArray, List.getElem?_cons_zero, List.getElem?_cons_succ]; go_wp2_with (fail)))
    refine (HARG.out _ HBW.out W.heap.size gr _ h1 h2 1 (by decide)).mono ?_
    rintro e W6 ⟨rfl, hB4⟩
    have h1 := h1.below hB4
    have h4 := h4.below hB4
    have HB3 := Lib.hid (HB3.out.trans (hB4.mono HB3.out.size))
    clear hB4 e1
    obtain ⟨-, e1, -, -, -, -, -, -, -, -, -⟩ := Blk.c10 h1
    have HO1 := Lib.hid (Ev.nth_ok HVO.out 1)
    generalize Ev.nth vs 1 = x1 at HV HO1 ⊢
    go_wp2_with fail
    repeat' (first | (refine hZ _ _ ?_; clear hZ) | (refine hZ _ ?_; clear hZ) | (refine hZ ?_; clear hZ) | rw [again_nil] | rw [walk_fin] | ((first | rw [walk_take] | rw [walk_run] | rw [again_cons]); intro Z hZ; simp only [sel, List.getElem?_toArray, List.getElem?_cons_zero, List.getElem?_cons_succ]; go_wp2_with (fail)))
    refine (vcmp_any _ n.op x0 x1 HO0.out HO1.out).mono ?_
    rintro e W7 ⟨rfl, hB4⟩
    have h1 := h1.below hB4
    have h4 := h4.below hB4
    have HB3 := Lib.hid (HB3.out.trans (hB4.mono HB3.out.size))
    clear hB4 e1
    obtain ⟨-, e1, -, -, -, -, -, -, -, -, -⟩ := Blk.c10 h1
    generalize Ev.cmpV n.op x0 x1 = d at HV ⊢
    go_wp2_with fail
    repeat' (first | (refine hZ _ _ ?_; clear hZ) | (refine hZ _ ?_; clear hZ) | (refine hZ ?_; clear hZ) | rw [again_nil] | rw [walk_fin] | ((first | rw [walk_take] | rw [walk_run] | rw [again_cons]); intro Z hZ; simp only [sel, List.getElem?_toArray, List.getElem?_cons_zero, List.getElem?_cons_succ]; go_wp2_with (refine wpList_store_va rfl rfl (.tmp 4) (.tmp 64) rfl g rfl d rfl h4 ?_; intro Wa hba hga)))
    go_wp2_with fail
    exact ret_va hba rfl rfl rfl ⟨by rw [HV.out], below_of_grown HB3.out hga (by omega) HB3.out.size⟩
  by_cases k8 : n.k = 8
  · have HV : Hid (Ev.eval row n = Ev.arithV n.op (Ev.nth vs 0) (Ev.nth vs 1)) := by show _ = _; rw [HVE.out]; unfold Ev.evalK; rw [if_neg k1, if_neg k2, if_neg k3, if_neg k4, if_neg k5, if_neg k6, if_neg k7, if_pos k8]
    rw [k8] at c0
    clear k1 k2 k3 k4 k5 k6 k7 k8 HVE c6 c7
    go_upto_region 19 with fail
    clear c0 c1
    have h1 := h1.drew
    have h2 := h2.drew
    have h4 := h4.drew
    have HB3 := Lib.hid (HB3.out.drewR)
    have HBW := Lib.hid (HBW.out.drewR)
    clear d0
    obtain ⟨-, e1, -, -, -, -, -, e7, -, -, -⟩ := Blk.c10 h1
    refine wp_region_plan (.take 0 (.take 1 (.take 2 (.take 4 (.run 3 [0, 1, 4] (.run 5 [0, 1] (.run 6 [] (.run 7 [] .fin)))))))) (by kernel_rfl) (by kernel_rfl) (by kernel_rfl) (by kernel_rfl) ?_
    clear e7
    repeat' (first | (refine hZ _ _ ?_; clear hZ) | (refine hZ _ ?_; clear hZ) | (refine hZ ?_; clear hZ) | rw [again_nil] | rw [walk_fin] | ((first | rw [walk_take] | rw [walk_run] | rw [again_cons]); intro Z hZ; simp only [sel, List.getElem?_toArray, List.getElem?_cons_zero, List.getElem?_cons_succ]; go_wp2_with (fail)))
    refine (HARG.out _ HBW.out W.heap.size gr _ h1 h2 0 (by decide)).mono ?_
    rintro e W4 ⟨rfl, hB4⟩
    have h1 := h1.below hB4
    have h2 := h2.below hB4
    have h4 := h4.below hB4
    have HB3 := Lib.hid (HB3.out.trans (hB4.mono HB3.out.size))
    have HBW := Lib.hid (HBW.out.trans (hB4.mono HBW.out.size))
    clear hB4 e1
    obtain ⟨-, e1, -, -, -, -, -, -, -, -, -⟩ := Blk.c10 h1
    have HO0 := Lib.hid (Ev.nth_ok HVO.out 0)
    generalize Ev.nth vs 0 = x0 at HV HO0 ⊢
    go_wp2_with fail
    repeat' (first | (refine hZ _ _ ?_; clear hZ) | (refine hZ _ ?_; clear hZ) | (refine hZ ?_; clear hZ) | rw [again_nil] | rw [walk_fin] | ((first | rw [walk_take] | rw [walk_run] | rw [again_cons]); intro Z hZ; simp only [sel, List.getElem?_toArray, List.getElem?_cons_zero, List.getElem?_cons_succ]; go_wp2_with (fail)))
    refine (HARG.out _ HBW.out W.heap.size gr _ h1 h2 1 (by decide)).mono ?_
    rintro e W6 ⟨rfl, hB4⟩
    have h1 := h1.below hB4
    have h4 := h4.below hB4
    have HB3 := Lib.hid (HB3.out.trans (hB4.mono HB3.out.size))
    clear hB4 e1
    obtain ⟨-, e1, -, -, -, -, -, -, -, -, -⟩ := Blk.c10 h1
    have HO1 := Lib.hid (Ev.nth_ok HVO.out 1)
    generalize Ev.nth vs 1 = x1 at HV HO1 ⊢
    go_wp2_with fail
    repeat' (first | (refine hZ _ _ ?_; clear hZ) | (refine hZ _ ?_; clear hZ) | (refine hZ ?_; clear hZ) | rw [again_nil] | rw [walk_fin] | ((first | rw [walk_take] | rw [walk_run] | rw [again_cons]); intro Z hZ; simp only [sel, List.getElem?_toArray, List.getElem?_cons_zero, List.getElem?_cons_succ]; go_wp2_with (fail)))
    refine (varith_any _ n.op x0 x1 HO0.out HO1.out).mono ?_
    rintro e W7 ⟨rfl, hB4⟩
    have h1 := h1.below hB4
    have h4 := h4.below hB4
    have HB3 := Lib.hid (HB3.out.trans (hB4.mono HB3.out.size))
    clear hB4 e1
    obtain ⟨-, e1, -, -, -, -, -, -, -, -, -⟩ := Blk.c10 h1
    generalize Ev.arithV n.op x0 x1 = d at HV ⊢
    go_wp2_with fail
    repeat' (first | (refine hZ _ _ ?_; clear hZ) | (refine hZ _ ?_; clear hZ) | (refine hZ ?_; clear hZ) | rw [again_nil] | rw [walk_fin] | ((first | rw [walk_take] | rw [walk_run] | rw [again_cons]); intro Z hZ; simp only [sel, List.getElem?_toArray, List.getElem?_cons_zero, List.getElem?_cons_succ]; go_wp2_with (refine wpList_store_va rfl rfl (.tmp 4) (.tmp 73) rfl g rfl d rfl h4 ?_; intro Wa hba hga)))
    go_wp2_with fail
    exact ret_va hba rfl rfl rfl ⟨by rw [HV.out], below_of_grown HB3.out hga (by omega) HB3.out.size⟩
  by_cases k9 : n.k = 9
  · have HV : Hid (Ev.eval row n = Ev.boolV (((Ev.nth vs 0).k == 0) != n.no)) := by show _ = _; rw [HVE.out]; unfold Ev.evalK; rw [if_neg k1, if_neg k2, if_neg k3, if_neg k4, if_neg k5, if_neg k6, if_neg k7, if_neg k8, if_pos k9]
    rw [k9] at c0
    clear k1 k2 k3 k4 k5 k6 k7 k8 k9 HVE c6 c1
    go_upto_region 21 with fail
    clear c0 c7
    have h1 := h1.drew
    have h2 := h2.drew
    have h4 := h4.drew
    have HB3 := Lib.hid (HB3.out.drewR)
    have HBW := Lib.hid (HBW.out.drewR)
    clear d0
    obtain ⟨-, e1, -, -, -, -, -, e7, -, -, -⟩ := Blk.c10 h1
    refine wp_region_plan (.take 0 (.take 4 (.take 5 (.run 1 [4, 5] (.take 2 (.take 3 (.take 6 (.run 7 [] (.run 8 [] .fin))))))))) (by kernel_rfl) (by kernel_rfl) (by kernel_rfl) (by kernel_rfl) ?_
    clear e1
    repeat' (first | (refine hZ _ _ ?_; clear hZ) | (refine hZ _ ?_; clear hZ) | (refine hZ ?_; clear hZ) | rw [again_nil] | rw [walk_fin] | ((first | rw [walk_take] | rw [walk_run] | rw [again_cons]); intro Z hZ; simp only [sel, List.getElem?_toArray, List.getElem?_cons_zero, List.getElem?_cons_succ]; go_wp2_with (fail)))
    refine (HARG.out _ HBW.out W.heap.size gr _ h1 h2 0 (by decide)).mono ?_
    rintro e W4 ⟨rfl, hB4⟩
    have h1 := h1.below hB4
    have h4 := h4.below hB4
    have HB3 := Lib.hid (HB3.out.trans (hB4.mono HB3.out.size))
    clear hB4 e7
    obtain ⟨-, -, -, -, -, -, -, e7, -, -, -⟩ := Blk.c10 h1
    generalize Ev.nth vs 0 = x0 at HV ⊢
    have hfd := va_field0 x0
    obtain ⟨kb, hkb⟩ : ∃ kb, (x0.k == 0) = kb := ⟨_, rfl⟩
    rw [hkb] at HV
    go_wp2_with fail
    repeat' (first | (refine hZ _ _ ?_; clear hZ) | (refine hZ _ ?_; clear hZ) | (refine hZ ?_; clear hZ) | rw [again_nil] | rw [walk_fin] | ((first | rw [walk_take] | rw [walk_run] | rw [again_cons]); intro Z hZ; simp only [sel, List.getElem?_toArray, List.getElem?_cons_zero, List.getElem?_cons_succ]; go_wp2_with (fail)))
    refine (ofbool_any _ _).mono ?_
    rintro e W7 ⟨rfl, hB4⟩
    have h1 := h1.below hB4
    have h4 := h4.below hB4
    have HB3 := Lib.hid (HB3.out.trans (hB4.mono HB3.out.size))
    clear hB4 e7
    obtain ⟨-, -, -, -, -, -, -, e7, -, -, -⟩ := Blk.c10 h1
    rw [boolV_v]
    generalize hd : Ev.boolV _ = d
    have HD : Hid (Ev.eval row n = d) := by show _ = _; rw [HV.out, ← hd]; rfl
    clear hd
    go_wp2_with fail
    repeat' (first | (refine hZ _ _ ?_; clear hZ) | (refine hZ _ ?_; clear hZ) | (refine hZ ?_; clear hZ) | rw [again_nil] | rw [walk_fin] | ((first | rw [walk_take] | rw [walk_run] | rw [again_cons]); intro Z hZ; simp only [sel, List.getElem?_toArray, List.getElem?_cons_zero, List.getElem?_cons_succ]; go_wp2_with (refine wpList_store_va rfl rfl (.tmp 4) (.tmp 83) rfl g rfl d rfl h4 ?_; intro Wa hba hga)))
    go_wp2_with fail
    exact ret_va hba rfl rfl rfl ⟨by rw [HD.out], below_of_grown HB3.out hga (by omega) HB3.out.size⟩
  · have HV : Hid (Ev.eval row n = Key.nul) := by show _ = _; rw [HVE.out]; unfold Ev.evalK; rw [if_neg k1, if_neg k2, if_neg k3, if_neg k4, if_neg k5, if_neg k6, if_neg k7, if_neg k8, if_neg k9]
    have b1 : (n.k == 1) = false := by simp [k1]
    have b2 : (n.k == 2) = false := by simp [k2]
    have b3 : (n.k == 3) = false := by simp [k3]
    have b4 : (n.k == 4) = false := by simp [k4]
    have b5 : (n.k == 5) = false := by simp [k5]
    have b6 : (n.k == 6) = false := by simp [k6]
    have b7 : (n.k == 7) = false := by simp [k7]
    have b8 : (n.k == 8) = false := by simp [k8]
    have b9 : (n.k == 9) = false := by simp [k9]
    clear k1 k2 k3 k4 k5 k6 k7 k8 k9 HVE c6 c7 c1
    go_wp2_with (refine wpList_store_va rfl rfl (.tmp 4) (.tmp 84) rfl g rfl Key.nul rfl h4 ?_; intro Wa hba hga)
    exact ret_va hba rfl rfl rfl ⟨by rw [HV.out], below_of_grown HB3.out hga (by omega) HB3.out.size⟩
end Go.Proofs.YtjdffhonljhpcaaGreat
end

section
/-
  The document's answer: what a node comes to in a row.
-/
namespace Go.Proofs.YtjdffhonljhpcaaGreat
set_option linter.unusedSimpArgs false
set_option linter.unusedVariables false
open Go.RowKit

namespace Ev
theorem Dv.cc {s v : Va} (h : Dv s v) : Key.clean v = Key.clean s := by rw [← h.eq, clean_clean]
theorem Dv.k {s v : Va} (h : Dv s v) : v.k = s.k := by
  rw [← h.eq]
  unfold Key.clean Key.cleanF
  rcases h.cl.kind with e | e | e | e | e <;> simp [e, Key.nul]
/-- A row's value at a place. -/
def atV (row : List Va) (i : Int) : Va := if 0 ≤ i ∧ i < (row.length : Int) then Key.clean (nth row i.toNat) else Key.nul
end Ev
theorem RetD.of {w : World} {s s' : Va} {e : Ending} {w' : World} (h : RetD w s e w') (hs : s = s') : RetD w s' e w' := hs ▸ h
end Go.Proofs.YtjdffhonljhpcaaGreat
end

section
/-
  The contracts of eval.at, Order, Holds and of the document's Order and Holds.
-/
namespace Go.Proofs.YtjdffhonljhpcaaGreat
set_option linter.unusedSimpArgs false
set_option linter.unusedVariables false
open Go.RowKit

namespace Ev
theorem clean_at (row : List Va) (i : Int) : Key.clean (atV row i) = atV row i := by unfold atV; split; exact clean_clean _; rfl
theorem at_ok {row : List Va} (h : ∀ v ∈ row, v.ok) (i : Int) : (atV row i).ok := by unfold atV; split; exact clean_ok (nth_ok h _); exact nul_ok
/-- Which of two rows comes first. -/
def ordR : List So → List Va → List Va → Int
  | [], _, _ => 0
  | s :: l, a, b => if Key.vord (atV a s.at_) (atV b s.at_) = 0 then ordR l a b else if s.desc then -Key.vord (atV a s.at_) (atV b s.at_) else Key.vord (atV a s.at_) (atV b s.at_)
theorem ordR_range (l : List So) (a b : List Va) : ordR l a b = -1 ∨ ordR l a b = 0 ∨ ordR l a b = 1 := by
  induction l with
  | nil => exact .inr (.inl rfl)
  | cons s l ih =>
    unfold ordR
    have := Key.vord_range (atV a s.at_) (atV b s.at_)
    (repeat' split) <;> omega
/-- Do all of some nodes hold? -/
def holds (row : List Va) (l : List Nd) : Bool := l.all fun n => tru (eval row n) == 1
end Ev
/-- Rows as the laws hand them on. -/
structure RowOk (w : World) (R : Option Addr) (row : List Va) : Prop where
  r : ERow eVa w R row
  ok : ∀ v ∈ row, v.ok
  len : row.length ≤ 9223372036854775807
theorem RowOk.below {w W : World} {R : Option Addr} {row : List Va} (h : RowOk w R row) (hB : Below w.heap.size w W) : RowOk W R row := ⟨h.r.below hB, h.ok, h.len⟩
theorem RowIn.rok {w : World} {r : Rw} (h : RowIn w r) : RowOk w r.a r.l := ⟨h.row, fun v hv => (h.ok v hv).ok, by have := h.len; have := h.cap; unfold maxLen at this; omega⟩
theorem so_at {w : World} {A : Option Addr} {L : List So} (h : ERow eSo w A L) {j : Nat} (hj : j < L.length) : ∃ b o, A = some ⟨b, o, none⟩ ∧ b < w.heap.size ∧ w.cell? ⟨b, o + j * 2, none⟩ = some (.int .i64 L[j].at_) ∧ w.cell? ⟨b, o + j * 2 + 1, none⟩ = some (.bool L[j].desc) := by
  obtain ⟨b, o, e, hb, hc⟩ := h.at_ hj
  exact ⟨b, o, e, hb, hc 0 _ rfl, hc 1 _ rfl⟩
theorem Ev.ordR_drop {l : List So} {k : Nat} (hk : k < l.length) (a b : List Va) : Ev.ordR (l.drop k) a b = if Key.vord (Ev.atV a l[k].at_) (Ev.atV b l[k].at_) = 0 then Ev.ordR (l.drop (k + 1)) a b else if l[k].desc then -Key.vord (Ev.atV a l[k].at_) (Ev.atV b l[k].at_) else Key.vord (Ev.atV a l[k].at_) (Ev.atV b l[k].at_) := by
  have : l.drop k = l[k] :: l.drop (k + 1) := (List.getElem_cons_drop hk).symm
  rw [this]; rfl
theorem Ev.Dv.ord {s t u v : Va} (h : Ev.Dv s u) (k : Ev.Dv t v) (hs : Key.clean s = s) (ht : Key.clean t = t) : Key.vord (Key.dclean u) (Key.dclean v) = Key.vord s t := by
  rw [← Ev.vord_clean, h.cc, k.cc, hs, ht]
theorem Ev.holds_no {row : List Va} {L : List Nd} {k : Nat} (hk : k < L.length) (h : Ev.tru (Ev.eval row L[k]) ≠ 1) : Ev.holds row L = false := by
  unfold Ev.holds
  rw [List.all_eq_false]
  exact ⟨L[k], List.getElem_mem hk, by simpa using h⟩
theorem Ev.holds_yes {row : List Va} {L : List Nd} (h : ∀ k (hk : k < L.length), Ev.tru (Ev.eval row L[k]) = 1) : Ev.holds row L = true := by
  unfold Ev.holds
  rw [List.all_eq_true]
  intro n hn
  obtain ⟨k, hk, rfl⟩ := List.getElem_of_mem hn
  simpa using h k hk
theorem nd_at {w : World} {A : Option Addr} {L : List Nd} (h : ERow eNd w A L) {j : Nat} (hj : j < L.length) : ∃ b o, A = some ⟨b, o, none⟩ ∧ ERow eNd w (some ⟨b, o, none⟩) L := by
  obtain ⟨b, o, e, hb, hc⟩ := h.at_ hj
  subst e
  exact ⟨b, o, rfl, h⟩
theorem Ev.tru3_two (v : Va) : (Ev.tru3 v = 2) ↔ Ev.tru v = 1 := by unfold Ev.tru3 Ev.tru; (repeat' split) <;> simp_all
end Go.Proofs.YtjdffhonljhpcaaGreat
end

section
/-
  Stable sorting, plain: lists that are merged, and what the sorting of a list is.
-/
namespace Go.Proofs.YtjdffhonljhpcaaGreat
set_option linter.unusedSimpArgs false
set_option linter.unusedVariables false

namespace Srt
variable {α : Type}
/-- How elements stand to each other: below 0 the first one comes first. -/
structure Ord (cmp : α → α → Int) : Prop where
  anti : ∀ x y, cmp y x = -cmp x y
  trans : ∀ x y z, cmp x y ≤ 0 → cmp y z ≤ 0 → cmp x z ≤ 0
variable (cmp : α → α → Int)
/-- Two rows are merged; of alike ones those of the first come first. -/
def mg : List α → List α → List α
  | [], Y => Y
  | x :: X, [] => x :: X
  | x :: X, y :: Y => if cmp y x < 0 then y :: mg (x :: X) Y else x :: mg X (y :: Y)
termination_by X Y => X.length + Y.length
/-- A row, sorted; alike ones stay in their order. -/
def ssort (L : List α) : List α := L.foldl (fun acc z => mg cmp acc [z]) []
def Sorted (L : List α) : Prop := L.Pairwise fun s t => ¬ cmp t s < 0
theorem mg_nil_left (Y : List α) : mg cmp [] Y = Y := by unfold mg; rfl
theorem mg_nil_right (X : List α) : mg cmp X [] = X := by cases X <;> (unfold mg; rfl)
theorem mg_cons (x y : α) (X Y : List α) : mg cmp (x :: X) (y :: Y) = if cmp y x < 0 then y :: mg cmp (x :: X) Y else x :: mg cmp X (y :: Y) := by
  conv => lhs; unfold mg
theorem mg_perm : ∀ (X Y : List α), (mg cmp X Y).Perm (X ++ Y)
  | [], Y => by rw [mg_nil_left]; exact List.Perm.refl _
  | x :: X, [] => by rw [mg_nil_right, List.append_nil]
  | x :: X, y :: Y => by
    rw [mg_cons]
    split
    · exact ((mg_perm (x :: X) Y).cons y).trans (List.perm_middle.symm)
    · exact (mg_perm X (y :: Y)).cons x
termination_by X Y => X.length + Y.length
theorem mg_length (X Y : List α) : (mg cmp X Y).length = X.length + Y.length := by rw [(mg_perm cmp X Y).length_eq, List.length_append]
theorem ssort_nil : ssort cmp [] = [] := rfl
theorem ssort_snoc (L : List α) (z : α) : ssort cmp (L ++ [z]) = mg cmp (ssort cmp L) [z] := by unfold ssort; rw [List.foldl_append]; rfl
theorem list_snoc {P : List α → Prop} (h0 : P []) (h1 : ∀ L z, P L → P (L ++ [z])) (L : List α) : P L := by
  have : ∀ n (L : List α), L.length = n → P L := by
    intro n
    induction n with
    | zero => intro L h; rw [List.eq_nil_of_length_eq_zero h]; exact h0
    | succ n ih =>
      intro L h
      have hne : L ≠ [] := by intro e; subst e; simp at h
      rw [← List.dropLast_concat_getLast hne]
      exact h1 _ _ (ih _ (by rw [List.length_dropLast]; omega))
  exact this _ L rfl
theorem ssort_perm (L : List α) : (ssort cmp L).Perm L := by
  induction L using list_snoc with
  | h0 => exact List.Perm.refl _
  | h1 L z ih => rw [ssort_snoc]; exact (mg_perm cmp _ _).trans (ih.append_right _)
theorem ssort_length (L : List α) : (ssort cmp L).length = L.length := (ssort_perm cmp L).length_eq
variable {cmp}
theorem Ord.lt_trans (h : Ord cmp) {x y z : α} (h1 : cmp x y < 0) (h2 : cmp y z < 0) : cmp x z < 0 := by
  have h3 := h.trans x y z (by omega) (by omega)
  rcases Int.lt_or_eq_of_le h3 with h4 | h4
  · exact h4
  · -- z comes at most with x, x ahead of y: z ahead of y or with it, against h2
    have h5 := h.trans z x y (by rw [h.anti]; omega) (by omega)
    have h6 := h.anti y z
    omega
theorem Ord.lt_of_lt_of_le (h : Ord cmp) {x y z : α} (h1 : cmp x y < 0) (h2 : ¬ cmp z y < 0) : cmp x z < 0 := by
  -- y comes at most with z
  have h3 : cmp y z ≤ 0 := by have := h.anti z y; omega
  have h4 := h.trans x y z (by omega) h3
  rcases Int.lt_or_eq_of_le h4 with h5 | h5
  · exact h5
  · have h6 := h.trans y z x h3 (by rw [h.anti]; omega)
    have h7 := h.anti x y
    omega
theorem Ord.le_trans (h : Ord cmp) {x y z : α} (h1 : ¬ cmp y x < 0) (h2 : ¬ cmp z y < 0) : ¬ cmp z x < 0 := by
  have e1 := h.anti x y
  have e2 := h.anti y z
  have e3 := h.anti x z
  have h3 := h.trans x y z (by omega) (by omega)
  omega
/-- Merging is associative. -/
theorem mg_assoc (h : Ord cmp) : ∀ (A B C : List α), mg cmp (mg cmp A B) C = mg cmp A (mg cmp B C)
  | [], B, C => by rw [mg_nil_left, mg_nil_left]
  | a :: A, [], C => by rw [mg_nil_right, mg_nil_left]
  | a :: A, b :: B, [] => by rw [mg_nil_right, mg_nil_right]
  | a :: A, b :: B, c :: C => by
    by_cases hba : cmp b a < 0
    · rw [mg_cons, if_pos hba]
      by_cases hcb : cmp c b < 0
      · have hca := h.lt_trans hcb hba
        have ih := mg_assoc h (a :: A) (b :: B) C
        rw [mg_cons cmp a b, if_pos hba] at ih
        rw [mg_cons cmp b c _ C, if_pos hcb, mg_cons cmp b c B C, if_pos hcb, mg_cons cmp a c, if_pos hca, ih]
      · have ih := mg_assoc h (a :: A) B (c :: C)
        rw [mg_cons cmp b c _ C, if_neg hcb, mg_cons cmp b c B C, if_neg hcb, mg_cons cmp a b, if_pos hba, ih]
    · rw [mg_cons, if_neg hba]
      by_cases hca : cmp c a < 0
      · have hcb := h.lt_of_lt_of_le hca hba
        have ih := mg_assoc h (a :: A) (b :: B) C
        rw [mg_cons cmp a b, if_neg hba] at ih
        rw [mg_cons cmp a c _ C, if_pos hca, mg_cons cmp b c B C, if_pos hcb, mg_cons cmp a c, if_pos hca, ih]
      · have ih := mg_assoc h A (b :: B) (c :: C)
        rw [mg_cons cmp a c _ C, if_neg hca, ih]
        by_cases hcb : cmp c b < 0
        · rw [mg_cons cmp b c B C, if_pos hcb, mg_cons cmp a c, if_neg hca]
        · rw [mg_cons cmp b c B C, if_neg hcb, mg_cons cmp a b, if_neg hba]
termination_by A B C => A.length + B.length + C.length
theorem ssort_append (h : Ord cmp) (X Y : List α) : ssort cmp (X ++ Y) = mg cmp (ssort cmp X) (ssort cmp Y) := by
  induction Y using list_snoc with
  | h0 => rw [List.append_nil, ssort_nil, mg_nil_right]
  | h1 Y z ih => rw [← List.append_assoc, ssort_snoc, ssort_snoc, ih, mg_assoc h]
theorem mem_mg {X Y : List α} {z : α} (hz : z ∈ mg cmp X Y) : z ∈ X ∨ z ∈ Y := List.mem_append.1 ((mg_perm cmp X Y).mem_iff.1 hz)
theorem mg_sorted (h : Ord cmp) : ∀ {X Y : List α}, Sorted cmp X → Sorted cmp Y → Sorted cmp (mg cmp X Y)
  | [], Y, _, hy => by rw [mg_nil_left]; exact hy
  | x :: X, [], hx, _ => by rw [mg_nil_right]; exact hx
  | x :: X, y :: Y, hx, hy => by
    obtain ⟨hx1, hx2⟩ := List.pairwise_cons.1 hx
    obtain ⟨hy1, hy2⟩ := List.pairwise_cons.1 hy
    rw [mg_cons]
    split
    · next hlt =>
      refine List.pairwise_cons.2 ⟨fun z hz => ?_, mg_sorted h hx hy2⟩
      rcases mem_mg hz with hz | hz
      · have hyx : ¬ cmp x y < 0 := by have := h.anti x y; omega
        rcases List.mem_cons.1 hz with rfl | hz
        · exact hyx
        · exact h.le_trans hyx (hx1 z hz)
      · exact hy1 z hz
    · next hlt =>
      refine List.pairwise_cons.2 ⟨fun z hz => ?_, mg_sorted h hx2 hy⟩
      rcases mem_mg hz with hz | hz
      · exact hx1 z hz
      · rcases List.mem_cons.1 hz with rfl | hz
        · exact hlt
        · exact h.le_trans hlt (hy1 z hz)
termination_by X Y => X.length + Y.length
theorem ssort_sorted (h : Ord cmp) (L : List α) : Sorted cmp (ssort cmp L) := by
  induction L using list_snoc with
  | h0 => exact List.Pairwise.nil
  | h1 L z ih => rw [ssort_snoc]; exact mg_sorted h ih (List.pairwise_singleton _ _)
/-- Rows that are cut so that what comes first comes first are merged part by part. -/
theorem mg_parts : ∀ (X1 X2 Y1 Y2 : List α), (∀ y ∈ Y1, ∀ x ∈ X2, cmp y x < 0) → (∀ x ∈ X1, ∀ y ∈ Y2, ¬ cmp y x < 0) → mg cmp (X1 ++ X2) (Y1 ++ Y2) = mg cmp X1 Y1 ++ mg cmp X2 Y2
  | [], X2, [], Y2, _, _ => by rw [mg_nil_left]; rfl
  | [], X2, y :: Y1, Y2, h1, h2 => by
    have ih := mg_parts [] X2 Y1 Y2 (fun y hy => h1 y (by simp [hy])) h2
    rw [mg_nil_left] at ih ⊢
    cases X2 with
    | nil => simp only [List.nil_append, mg_nil_left, List.cons_append]
    | cons x X2 =>
      simp only [List.nil_append, List.cons_append] at ih ⊢
      rw [mg_cons, if_pos (h1 y (by simp) x (by simp)), ih]
  | x :: X1, X2, [], Y2, h1, h2 => by
    have ih := mg_parts X1 X2 [] Y2 h1 (fun x hx => h2 x (by simp [hx]))
    rw [mg_nil_right] at ih ⊢
    cases Y2 with
    | nil => simp only [List.append_nil, mg_nil_right]
    | cons y Y2 =>
      simp only [List.nil_append, List.cons_append] at ih ⊢
      rw [mg_cons, if_neg (h2 x (by simp) y (by simp)), ih]
  | x :: X1, X2, y :: Y1, Y2, h1, h2 => by
    simp only [List.cons_append]
    rw [mg_cons, mg_cons]
    split
    · have ih := mg_parts (x :: X1) X2 Y1 Y2 (fun y hy => h1 y (by simp [hy])) h2
      simp only [List.cons_append] at ih ⊢
      rw [ih]
    · have ih := mg_parts X1 X2 (y :: Y1) Y2 h1 (fun x hx => h2 x (by simp [hx]))
      simp only [List.cons_append] at ih ⊢
      rw [ih]
termination_by X1 X2 Y1 Y2 => X1.length + Y1.length
/-- One element is put into a sorted row. -/
theorem mg_one (S1 S2 : List α) (x : α) (h1 : ∀ s ∈ S1, ¬ cmp x s < 0) (h2 : ∀ s ∈ S2, cmp x s < 0) : mg cmp (S1 ++ S2) [x] = S1 ++ x :: S2 := by
  have := mg_parts S1 S2 [] [x] (by intro y hy; cases hy) (by intro s hs y hy; rw [List.mem_singleton.1 hy]; exact h1 s hs)
  simp only [List.nil_append, mg_nil_right] at this
  rw [this]
  cases S2 with
  | nil => rw [mg_nil_left]
  | cons s S2 => rw [mg_cons, if_pos (h2 s (by simp)), mg_nil_right]
/-- One element goes ahead of those of a sorted row that do not come ahead of it. -/
theorem one_mg (S1 S2 : List α) (x : α) (h1 : ∀ s ∈ S1, cmp s x < 0) (h2 : ∀ s ∈ S2, ¬ cmp s x < 0) : mg cmp [x] (S1 ++ S2) = S1 ++ x :: S2 := by
  have := mg_parts [] [x] S1 S2 (by intro y hy z hz; rw [List.mem_singleton.1 hz]; exact h1 y hy) (by intro s hs; cases hs)
  simp only [List.nil_append, mg_nil_left] at this
  rw [this]
  cases S2 with
  | nil => rw [mg_nil_right]
  | cons s S2 => rw [mg_cons, if_neg (h2 s (by simp)), mg_nil_left]
end Srt
end Go.Proofs.YtjdffhonljhpcaaGreat
end

section
/-
  Stable sorting, plain: where two sorted rows are cut so that they can be merged part by part.
-/
namespace Go.Proofs.YtjdffhonljhpcaaGreat
set_option linter.unusedSimpArgs false
set_option linter.unusedVariables false

namespace Srt
variable {α : Type} {cmp : α → α → Int}
theorem Ord.self (h : Ord cmp) (x : α) : cmp x x = 0 := by have := h.anti x x; omega
theorem Ord.lt_of_le_of_lt (h : Ord cmp) {x y z : α} (h1 : ¬ cmp y x < 0) (h2 : cmp y z < 0) : cmp x z < 0 := by
  have e1 := h.anti x y
  have h3 := h.trans x y z (by omega) (by omega)
  rcases Int.lt_or_eq_of_le h3 with h5 | h5
  · exact h5
  · have e2 := h.anti x z
    have h6 := h.trans z x y (by omega) (by omega)
    have e3 := h.anti y z
    omega
theorem sorted_le (ho : Ord cmp) {L : List α} (h : Sorted cmp L) {i j : Nat} (hij : i ≤ j) (hj : j < L.length) : ¬ cmp L[j] (L[i]'(by omega)) < 0 := by
  by_cases e : i = j
  · subst e; rw [ho.self]; omega
  · exact (List.pairwise_iff_getElem.1 h) i j (by omega) hj (by omega)
theorem sorted_part {L M N : List α} (h : Sorted cmp L) (e : L = M ++ N) : Sorted cmp M ∧ Sorted cmp N := by
  subst e
  exact ⟨(List.pairwise_append.1 h).1, (List.pairwise_append.1 h).2.1⟩
theorem sym_cut (ho : Ord cmp) {X Y : List α} (hX : Sorted cmp X) (hY : Sorted cmp Y) (s t : Nat)
    (h1 : ∀ (h : 0 < t) (h' : s < X.length) (h'' : t ≤ Y.length), cmp (Y[t - 1]'(by omega)) X[s] < 0)
    (h2 : ∀ (h : 0 < s) (h' : t < Y.length) (h'' : s ≤ X.length), ¬ cmp Y[t] (X[s - 1]'(by omega)) < 0) (hs : s ≤ X.length) (ht : t ≤ Y.length) :
    mg cmp X Y = mg cmp (X.take s) (Y.take t) ++ mg cmp (X.drop s) (Y.drop t) := by
  have := mg_parts (cmp := cmp) (X.take s) (X.drop s) (Y.take t) (Y.drop t) ?_ ?_
  · rwa [List.take_append_drop, List.take_append_drop] at this
  · intro y hy x hx
    obtain ⟨i, hi, rfl⟩ := List.getElem_of_mem hy
    obtain ⟨j, hj, rfl⟩ := List.getElem_of_mem hx
    rw [List.length_take] at hi
    rw [List.length_drop] at hj
    rw [List.getElem_take, List.getElem_drop]
    have k1 := h1 (by omega) (by omega) ht
    have k2 := sorted_le ho hX (i := s) (j := s + j) (by omega) (by omega)
    have k3 := sorted_le ho hY (i := i) (j := t - 1) (by omega) (by omega)
    exact ho.lt_of_le_of_lt k3 (ho.lt_of_lt_of_le k1 k2)
  · intro x hx y hy
    obtain ⟨i, hi, rfl⟩ := List.getElem_of_mem hx
    obtain ⟨j, hj, rfl⟩ := List.getElem_of_mem hy
    rw [List.length_take] at hi
    rw [List.length_drop] at hj
    rw [List.getElem_take, List.getElem_drop]
    have k1 := h2 (by omega) (by omega) hs
    have k2 := sorted_le ho hX (i := i) (j := s - 1) (by omega) (by omega)
    have k3 := sorted_le ho hY (i := t) (j := t + j) (by omega) (by omega)
    exact ho.le_trans k2 (ho.le_trans k1 k3)
/-- A row's element at a place (the row's own one where there is none is never asked for). -/
def nth [Inhabited α] (L : List α) (i : Nat) : α := L.getD i default
variable [Inhabited α]
theorem nth_in {L : List α} {i : Nat} (h : i < L.length) : nth L i = L[i] := by unfold nth; simp [List.getD, h]
theorem nth_mem {L : List α} {i : Nat} (h : i < L.length) : nth L i ∈ L := by rw [nth_in h]; exact List.getElem_mem h
theorem nth_fst {P X Y Q : List α} {k : Nat} (h1 : P.length ≤ k) (h2 : k < P.length + X.length) : nth (P ++ X ++ Y ++ Q) k = X[k - P.length]'(by omega) := by
  rw [nth_in (by simp; omega)]
  simp only [List.append_assoc]
  rw [List.getElem_append_right h1, List.getElem_append_left (by omega)]
theorem nth_snd {P X Y Q : List α} {k : Nat} (h1 : P.length + X.length ≤ k) (h2 : k < P.length + X.length + Y.length) : nth (P ++ X ++ Y ++ Q) k = Y[k - (P.length + X.length)]'(by omega) := by
  rw [nth_in (by simp; omega)]
  simp only [List.append_assoc]
  rw [List.getElem_append_right (by omega), List.getElem_append_right (by omega), List.getElem_append_left (by omega)]
  congr 1
  omega
/-- Where the search ends, the rows are cut. -/
theorem sym_fin (ho : Ord cmp) (P X Y Q : List α) (hX : Sorted cmp X) (hY : Sorted cmp Y) {a m b s e : Nat} (ha : P.length = a) (hm : a + X.length = m) (hb : m + Y.length = b)
    (has : a ≤ s) (hsm : s ≤ m) (hme : m ≤ e) (heb : e ≤ b)
    (h1 : s = m ∨ e = m ∨ cmp (nth (P ++ X ++ Y ++ Q) (e - 1)) (nth (P ++ X ++ Y ++ Q) s) < 0)
    (h2 : s = a ∨ e = b ∨ ¬ cmp (nth (P ++ X ++ Y ++ Q) e) (nth (P ++ X ++ Y ++ Q) (s - 1)) < 0) :
    ∃ X1 X2 Y1 Y2, X = X1 ++ X2 ∧ Y = Y1 ++ Y2 ∧ X1.length = s - a ∧ X2.length = m - s ∧ Y1.length = e - m ∧ Y2.length = b - e ∧ mg cmp X Y = mg cmp X1 Y1 ++ mg cmp X2 Y2 := by
  subst ha hm hb
  refine ⟨X.take (s - P.length), X.drop (s - P.length), Y.take (e - (P.length + X.length)), Y.drop (e - (P.length + X.length)), (List.take_append_drop _ _).symm, (List.take_append_drop _ _).symm, by rw [List.length_take]; omega, by rw [List.length_drop]; omega, by rw [List.length_take]; omega, by rw [List.length_drop]; omega, ?_⟩
  refine sym_cut ho hX hY _ _ ?_ ?_ (by omega) (by omega)
  · intro h h' h''
    rcases h1 with h1 | h1 | h1
    · omega
    · omega
    · rw [nth_fst (k := s) (by omega) (by omega), nth_snd (k := e - 1) (by omega) (by omega)] at h1
      have e1 : e - 1 - (P.length + X.length) = e - (P.length + X.length) - 1 := by omega
      simp only [e1] at h1
      exact h1
  · intro h h' h''
    rcases h2 with h2 | h2 | h2
    · omega
    · omega
    · rw [nth_fst (k := s - 1) (by omega) (by omega), nth_snd (k := e) (by omega) (by omega)] at h2
      have e1 : s - 1 - P.length = s - P.length - 1 := by omega
      simp only [e1] at h2
      exact h2
/-- The first element goes behind those that come ahead of it. -/
theorem one_fin (ho : Ord cmp) (P Y Q : List α) (x : α) (hY : Sorted cmp Y) {m b e : Nat} (hm : P.length + 1 = m) (hb : m + Y.length = b) (hme : m ≤ e) (heb : e ≤ b)
    (h1 : e = m ∨ cmp (nth (P ++ [x] ++ Y ++ Q) (e - 1)) x < 0) (h2 : e = b ∨ ¬ cmp (nth (P ++ [x] ++ Y ++ Q) e) x < 0) :
    ∃ Y1 Y2, Y = Y1 ++ Y2 ∧ Y1.length = e - m ∧ mg cmp [x] Y = Y1 ++ x :: Y2 := by
  have hx : nth (P ++ [x] ++ Y ++ Q) P.length = x := by rw [nth_fst (by omega) (by simp)]; simp
  obtain ⟨X1, X2, Y1, Y2, e1, e2, e3, e4, e5, e6, e7⟩ := sym_fin ho P [x] Y Q (List.pairwise_singleton _ _) hY (a := P.length) (m := m) (b := b) (s := P.length) (e := e) rfl hm hb (Nat.le_refl _) (by omega) hme heb (by rw [hx]; omega) (.inl rfl)
  obtain rfl : X1 = [] := List.eq_nil_of_length_eq_zero (by omega)
  rw [List.nil_append] at e1
  subst e1
  refine ⟨Y1, Y2, e2, e5, ?_⟩
  rw [e7, mg_nil_left]
  cases Y2 with
  | nil => rw [mg_nil_right]
  | cons y Y2 =>
    simp only [List.length_cons] at e6
    rw [mg_cons, if_neg, mg_nil_left]
    rcases h2 with h2 | h2
    · omega
    · rw [nth_snd (k := e) (by simp; omega) (by simp; omega)] at h2
      subst e2
      rw [List.getElem_append_right (by simp; omega)] at h2
      have e8 : e - (P.length + [x].length) - Y1.length = 0 := by simp; omega
      simp only [e8] at h2
      exact h2
/-- The last element goes ahead of those that come behind it. -/
theorem fin_one (ho : Ord cmp) (P X Q : List α) (y : α) (hX : Sorted cmp X) {a m s : Nat} (ha : P.length = a) (hm : a + X.length = m) (has : a ≤ s) (hsm : s ≤ m)
    (h1 : s = m ∨ cmp y (nth (P ++ X ++ [y] ++ Q) s) < 0) (h2 : s = a ∨ ¬ cmp y (nth (P ++ X ++ [y] ++ Q) (s - 1)) < 0) :
    ∃ X1 X2, X = X1 ++ X2 ∧ X1.length = s - a ∧ mg cmp X [y] = X1 ++ y :: X2 := by
  have hy : nth (P ++ X ++ [y] ++ Q) m = y := by rw [nth_snd (by omega) (by simp; omega)]; simp
  obtain ⟨X1, X2, Y1, Y2, e1, e2, e3, e4, e5, e6, e7⟩ := sym_fin ho P X [y] Q hX (List.pairwise_singleton _ _) (a := a) (m := m) (b := m + 1) (s := s) (e := m) ha hm rfl has hsm (Nat.le_refl _) (by omega) (.inr (.inl rfl)) (by rw [hy]; omega)
  obtain rfl : Y1 = [] := List.eq_nil_of_length_eq_zero (by omega)
  rw [List.nil_append] at e2
  subst e2
  refine ⟨X1, X2, e1, e3, ?_⟩
  rw [e7, mg_nil_right]
  cases X2 with
  | nil => rw [mg_nil_left]
  | cons x X2 =>
    simp only [List.length_cons] at e4
    rw [mg_cons, if_pos, mg_nil_right]
    rcases h1 with h1 | h1
    · omega
    · rw [nth_fst (k := s) (by omega) (by omega)] at h1
      subst e1
      rw [List.getElem_append_right (by omega)] at h1
      have e8 : s - P.length - X1.length = 0 := by omega
      simp only [e8] at h1
      exact h1
end Srt
end Go.Proofs.YtjdffhonljhpcaaGreat
end

section
/-
  Stable sorting, plain: rows that are sorted block by block.
-/
namespace Go.Proofs.YtjdffhonljhpcaaGreat
set_option linter.unusedSimpArgs false
set_option linter.unusedVariables false

namespace Srt
variable {α : Type}
/-- A row that is sorted block by block: the blocks have this length, the last one at most. -/
inductive Chk (cmp : α → α → Int) (bs : Nat) : List α → List α → Prop
  | last (L : List α) : L.length ≤ bs → Chk cmp bs (ssort cmp L) L
  | more (B S L : List α) : B.length = bs → Chk cmp bs S L → Chk cmp bs (ssort cmp B ++ S) (B ++ L)
variable {cmp : α → α → Int} {bs : Nat}
theorem Chk.perm {S L : List α} (h : Chk cmp bs S L) : S.Perm L := by
  induction h with
  | last L _ => exact ssort_perm cmp L
  | more B S L _ _ ih => exact (ssort_perm cmp B).append ih
theorem Chk.small {S L : List α} (h : Chk cmp bs S L) (hl : L.length ≤ bs) : S = ssort cmp L := by
  cases h with
  | last L _ => rfl
  | more B S L hB h =>
    rw [List.length_append] at hl
    obtain rfl : L = [] := List.eq_nil_of_length_eq_zero (by omega)
    obtain rfl : S = [] := List.eq_nil_of_length_eq_zero (by rw [h.perm.length_eq]; rfl)
    rw [List.append_nil, List.append_nil]
theorem Chk.cut {S L : List α} (h : Chk cmp bs S L) (hl : bs ≤ L.length) : ∃ B S' L', B.length = bs ∧ L = B ++ L' ∧ S = ssort cmp B ++ S' ∧ Chk cmp bs S' L' := by
  cases h with
  | last L h => exact ⟨L, [], [], by omega, (List.append_nil _).symm, (List.append_nil _).symm, .last [] (Nat.zero_le _)⟩
  | more B S L hB h => exact ⟨B, S, L, hB, rfl, rfl, h⟩
/-- What is done: whatever is sorted so behind it, the whole is. -/
def Done (cmp : α → α → Int) (bs : Nat) (SD LD : List α) : Prop := SD.Perm LD ∧ ∀ S L, Chk cmp bs S L → Chk cmp bs (SD ++ S) (LD ++ L)
theorem Done.nil : Done cmp bs ([] : List α) [] := ⟨List.Perm.refl _, fun _ _ h => h⟩
theorem Done.more {SD LD : List α} (h : Done cmp bs SD LD) (B : List α) (hB : B.length = bs) : Done cmp bs (SD ++ ssort cmp B) (LD ++ B) :=
  ⟨h.1.append (ssort_perm cmp B), fun S L k => by rw [List.append_assoc, List.append_assoc]; exact h.2 _ _ (.more B S L hB k)⟩
theorem Done.len {SD LD : List α} (h : Done cmp bs SD LD) : SD.length = LD.length := h.1.length_eq
end Srt
end Go.Proofs.YtjdffhonljhpcaaGreat
end

section
/-
  What queries answer, plain: the order of rows, folds, groups.
-/
namespace Go.Proofs.YtjdffhonljhpcaaGreat
set_option linter.unusedSimpArgs false
set_option linter.unusedVariables false

namespace Key
open Go.Op
theorem less_trans : ∀ a b c : List UInt8, bytesLess a b = true → bytesLess b c = true → bytesLess a c = true
  | [], [], _, h, _ => by simp [bytesLess] at h
  | [], _ :: _, [], _, h => by simp [bytesLess] at h
  | [], _ :: _, _ :: _, _, _ => by simp [bytesLess]
  | _ :: _, [], _, h, _ => by simp [bytesLess] at h
  | _ :: _, _ :: _, [], _, h => by simp [bytesLess] at h
  | x :: a, y :: b, z :: c, h1, h2 => by
    simp only [bytesLess, Bool.or_eq_true, Bool.and_eq_true, decide_eq_true_eq, beq_iff_eq] at h1 h2 ⊢
    rcases h1 with h1 | ⟨rfl, h1⟩
    · rcases h2 with h2 | ⟨rfl, h2⟩
      · left; rw [UInt8.lt_iff_toNat_lt] at *; omega
      · exact .inl h1
    · rcases h2 with h2 | ⟨rfl, h2⟩
      · exact .inl h2
      · exact .inr ⟨rfl, less_trans a b c h1 h2⟩
theorem less_asymm {a b : List UInt8} (h : bytesLess a b = true) : bytesLess b a = false := by
  cases h2 : bytesLess b a with
  | false => rfl
  | true => have := less_trans a b a h h2; rw [less_irrefl] at this; cases this
theorem less_neg {a b c : List UInt8} (h1 : bytesLess b a = false) (h2 : bytesLess c b = false) : bytesLess c a = false := by
  cases h3 : bytesLess c a with
  | false => rfl
  | true =>
    cases h4 : bytesLess a b with
    | true => rw [less_trans c a b h3 h4] at h2; cases h2
    | false => rw [less_total a b h4 h1] at h3; rw [h3] at h2; cases h2
theorem vless_asymm {a b : Va} (h : vless a b) : ¬ vless b a := by
  unfold vless at *
  rcases h with h | ⟨e, h⟩
  · rintro (h2 | ⟨e2, -⟩) <;> omega
  · rintro (h2 | ⟨e2, h2⟩)
    · omega
    · by_cases k2 : a.k = 2
      · rw [if_pos k2] at h
        rw [if_pos (by omega)] at h2
        rcases h with h | h <;> rcases h2 with h2 | h2
        · exact h.1 h2.2
        · exact h2.1 h.2
        · exact h.1 h2.2
        · omega
      · rw [if_neg k2] at h
        rw [if_neg (by omega)] at h2
        by_cases k3 : a.k = 3
        · rw [if_pos k3] at h
          rw [if_pos (by omega)] at h2
          rw [less_asymm h] at h2; cases h2
        · rw [if_neg k3] at h
          rw [if_neg (by omega)] at h2
          omega
theorem vless_neg {a b c : Va} (h1 : ¬ vless b a) (h2 : ¬ vless c b) : ¬ vless c a := by
  unfold vless at *
  rintro (h3 | ⟨e, h3⟩)
  · have := fun h => h1 (.inl h)
    have := fun h => h2 (.inl h)
    omega
  · have ha := fun h => h1 (.inl h)
    have hb := fun h => h2 (.inl h)
    have e1 : b.k = a.k := by omega
    have e2 : c.k = b.k := by omega
    have h1 : ¬ _ := fun h => h1 (.inr ⟨e1, h⟩)
    have h2 : ¬ _ := fun h => h2 (.inr ⟨e2, h⟩)
    by_cases k2 : a.k = 2
    · rw [if_pos (by omega)] at h1 h2 h3
      by_cases na : fnan a.f <;> by_cases nb : fnan b.f <;> by_cases nc : fnan c.f <;> simp [na, nb, nc] at h1 h2 h3
      omega
    · rw [if_neg (by omega)] at h1 h2 h3
      by_cases k3 : a.k = 3
      · rw [if_pos (by omega)] at h1 h2 h3
        have := less_neg (by simpa using h1) (by simpa using h2)
        rw [this] at h3; cases h3
      · rw [if_neg (by omega)] at h1 h2 h3
        omega
theorem vord_le {a b : Va} : vord a b ≤ 0 ↔ ¬ vless b a := by
  unfold vord
  by_cases h : vless a b
  · rw [if_pos h]; have := vless_asymm h; simp [this]
  · rw [if_neg h]
    by_cases h2 : vless b a
    · rw [if_pos h2]; simp [h2]
    · rw [if_neg h2]; simp [h2]
theorem vord_ord : Srt.Ord vord where
  anti a b := by
    unfold vord
    by_cases h : vless a b
    · simp [h, vless_asymm h]
    · by_cases h2 : vless b a
      · simp [h, h2]
      · simp [h, h2]
  trans a b c h1 h2 := vord_le.2 (vless_neg (vord_le.1 h1) (vord_le.1 h2))
end Key
namespace Srt
/-- An order of what elements are read as. -/
theorem Ord.on {α β : Type} {cmp : α → α → Int} (h : Ord cmp) (f : β → α) : Ord fun x y => cmp (f x) (f y) := ⟨fun x y => h.anti _ _, fun x y z => h.trans _ _ _⟩
theorem Ord.eq_trans {α : Type} {cmp : α → α → Int} (h : Ord cmp) {x y z : α} (h1 : cmp x y = 0) (h2 : cmp y z = 0) : cmp x z = 0 := by
  have a1 := h.trans x y z (by omega) (by omega)
  have a2 := h.trans z y x (by rw [h.anti]; omega) (by rw [h.anti]; omega)
  have a3 := h.anti x z
  omega
theorem Ord.eq_left {α : Type} {cmp : α → α → Int} (h : Ord cmp) {x y : α} (z : α) (h1 : cmp x y = 0) : (cmp x z < 0 ↔ cmp y z < 0) ∧ (cmp x z = 0 ↔ cmp y z = 0) := by
  have e := h.anti x y
  have k1 : ∀ {x y : α}, cmp x y = 0 → cmp x z < 0 → cmp y z < 0 := fun {x y} h1 h2 => by
    have e := h.anti x y
    exact h.lt_of_le_of_lt (by omega) h2
  have k2 : ∀ {x y : α}, cmp x y = 0 → cmp x z = 0 → cmp y z = 0 := fun {x y} h1 h2 => h.eq_trans (by have := h.anti x y; omega) h2
  exact ⟨⟨k1 h1, k1 (by omega)⟩, ⟨k2 h1, k2 (by omega)⟩⟩
end Srt
namespace Ev
open Key
theorem ordR_ord : ∀ l : List So, Srt.Ord (ordR l)
  | [] => ⟨fun _ _ => rfl, fun _ _ _ _ _ => Int.le_refl 0⟩
  | s :: l => by
    have ih := ordR_ord l
    have hv := vord_ord
    refine ⟨fun a b => ?_, fun a b c => ?_⟩
    · unfold ordR
      have e := hv.anti (atV a s.at_) (atV b s.at_)
      rw [e]
      by_cases h : vord (atV a s.at_) (atV b s.at_) = 0
      · rw [if_pos h, if_pos (by omega), ih.anti]
      · rw [if_neg h, if_neg (by omega)]
        split <;> omega
    · unfold ordR
      generalize atV a s.at_ = x
      generalize atV b s.at_ = y
      generalize atV c s.at_ = z
      have exy := hv.anti x y
      have eyz := hv.anti y z
      have exz := hv.anti x z
      have hlx := hv.eq_left (x := x) (y := y) z
      by_cases h1 : vord x y = 0
      · rw [if_pos h1]
        have hl := hlx h1
        by_cases h2 : vord y z = 0
        · rw [if_pos h2, if_pos (hl.2.2 h2)]
          exact ih.trans a b c
        · rw [if_neg h2, if_neg (fun h => h2 (hl.2.1 h))]
          have hr1 := vord_range x z
          have hr2 := vord_range y z
          have hr3 := hl.1
          have hr4 := hl.2
          split <;> intro _ _ <;> omega
      · rw [if_neg h1]
        have hr1 := vord_range x y
        by_cases h2 : vord y z = 0
        · rw [if_pos h2]
          have hl := hv.eq_left (x := y) (y := z) x h2
          have ezx := hv.anti z x
          have hr3 := hl.1
          have hr4 := hl.2
          have h3 : ¬ vord x z = 0 := by omega
          rw [if_neg h3]
          have hr2 := vord_range x z
          split <;> intro _ _ <;> omega
        · rw [if_neg h2]
          have hr2 := vord_range y z
          have hr3 := vord_range x z
          have t1 := hv.lt_trans (x := x) (y := y) (z := z)
          have t2 := hv.lt_trans (x := z) (y := y) (z := x)
          have e1 := hv.anti z x
          have e2 := hv.anti z y
          have e3 := hv.anti y x
          split
          · intro k1 k2
            have := t2 (by omega) (by omega)
            rw [if_neg (by omega)]; omega
          · intro k1 k2
            have := t1 (by omega) (by omega)
            rw [if_neg (by omega)]; omega
end Ev
end Go.Proofs.YtjdffhonljhpcaaGreat
end

section
/-
  What is known of a column, as it lies in memory.
-/
namespace Go.Proofs.YtjdffhonljhpcaaGreat
set_option linter.unusedSimpArgs false
set_option linter.unusedVariables false
open Go.RowKit

/-- Numbers, as int64. -/
def eI64 : Elem Int where
  e := 2
  t := 49
  sz := 1
  bytes := 8
  zero := .int .i64 0
  code := fun x => [.int .i64 x]
  pos := by decide
  few := by decide
  len := fun _ => rfl
  one := by
    intro x u hu
    simp at hu
    subst hu
    rfl
  zsz := rfl
  info := by kernel_rfl
  under := Tryz.underlying49
theorem i64_at {w : World} {A : Option Addr} {L : List Int} (h : ERow eI64 w A L) {j : Nat} (hj : j < L.length) : ∃ b o, A = some ⟨b, o, none⟩ ∧ b < w.heap.size ∧ w.cell? ⟨b, o + j, none⟩ = some (.int .i64 L[j]) := by
  obtain ⟨b, o, e, hb, hc⟩ := h.at_ hj
  refine ⟨b, o, e, hb, ?_⟩
  have := hc 0 _ rfl
  rwa [show o + (j * eI64.sz + 0) = o + j by show o + (j * 1 + 0) = _; omega] at this

/-- What is known of a column. -/
structure Cs where
  d : Int
  n : Int
  a : Option Addr
  b : List Int
  c : Nat
def Cs.cells (x : Cs) : List Value := [.int .i64 x.d, .int .i64 x.n, .slice x.a x.b.length x.c]
def Cs.v (x : Cs) : Value := .agg x.cells.toArray
def Cs.nul : Cs := ⟨0, 0, none, [], 0⟩
def eCs : Elem Cs where
  e := 51
  t := 52
  sz := 3
  bytes := 40
  zero := .agg #[.int .i64 0, .int .i64 0, .slice none 0 0]
  code := Cs.cells
  pos := by decide
  few := by decide
  len := fun _ => rfl
  one := by
    intro x u hu
    simp [Cs.cells] at hu
    rcases hu with rfl | rfl | rfl <;> rfl
  zsz := rfl
  info := by kernel_rfl
  under := Tryz.underlying52
theorem Cs.cells_one (a : Cs) : ∀ u ∈ a.cells, u.oneCell' = true := eCs.one a
theorem load_cs {w : World} {g o : Nat} {a : Cs} (h0 : w.cell? ⟨g, o, none⟩ = some (.int .i64 a.d)) (h1 : w.cell? ⟨g, o + 1, none⟩ = some (.int .i64 a.n)) (h2 : w.cell? ⟨g, o + 2, none⟩ = some (.slice a.a a.b.length a.c)) :
    (loadVar 51 ⟨g, o, none⟩).run Tryz.prog w = .ok a.v w := by
  unfold Cs.v Cs.cells
  go_simp
theorem Blk.cs {w : World} {g : Nat} {t : TypeId} {a : Cs} (h : Blk w g t a.cells) : (loadVar 51 ⟨g, 0, none⟩).run Tryz.prog w = .ok a.v w := load_cs (h.cell 0) (h.cell 1) (h.cell 2)
theorem cs_zero (W : World) : (zeroValue 51).run Tryz.prog W = .ok Cs.nul.v W := (zero_of_info (P := Tryz.prog) (t := 51) (v := Cs.nul.v) (n := 3) (by kernel_rfl)).1 W
theorem cs_info : (Tryz.prog.info? 51).map (·.size) = some 3 := by kernel_rfl
section
variable {w : World} {ops : Array Oper} {rest : List Oper} {o : Oper} {a : Act} {Q : Exit → Act → World → Prop}
theorem wpList_alloc_cs (hgd : o.guard = none) (hop : o.op = .alloc 51)
    (h : ∀ W, Blk W w.heap.size 51 Cs.nul.cells → w.heap.size + 1 ≤ W.heap.size → Below w.heap.size w W → wpList Tryz.prog ops Q rest (a.put o.dst (.pointer (some ⟨w.heap.size, 0, none⟩))) W) : wpList Tryz.prog ops Q (o :: rest) a w :=
  wpList_alloc_z hgd 51 hop (cs_zero _) fun W hW => by
    obtain ⟨h1, h2, h3⟩ := fresh1 (a := Cs.nul.cells) hW
    exact h W h1 h2 h3
theorem wpList_store_cs (hgd : o.guard = none) (hod : o.dst = none) (x y : Operand) (hop : o.op = .store 51 x y) (g : Nat) (hx : a.eval x = .pointer (some ⟨g, 0, none⟩)) (b : Cs) (hy : a.eval y = b.v) {T0 : TypeId} {old : Cs} (hb : Blk w g T0 old.cells)
    (h : ∀ W, Blk W g T0 b.cells → w.grownBy W (some g) → wpList Tryz.prog ops Q rest a W) : wpList Tryz.prog ops Q (o :: rest) a w :=
  wpList_store_blk hgd hod 51 x y hop g hx b.cells hy hb rfl cs_info b.cells_one h
theorem wpList_load_cs (hgd : o.guard = none) (x : Operand) (hop : o.op = .load 51 x) (g : Nat) (hx : a.eval x = .pointer (some ⟨g, 0, none⟩)) {T0 : TypeId} {b : Cs} (hb : Blk w g T0 b.cells)
    (h : wpList Tryz.prog ops Q rest (a.put o.dst b.v) w) : wpList Tryz.prog ops Q (o :: rest) a w :=
  wpList_load_mid hgd 51 x hop g 0 hx b.cells _ (hb.range 0 b.cells fun j _ => by rw [Nat.zero_add]) Tryz.underlying51 rfl cs_info h
theorem wpList_load_cs_at (hgd : o.guard = none) (x : Operand) (hop : o.op = .load 51 x) {b off : Nat} {L : List Cs} (hr : ERow eCs w (some ⟨b, off, none⟩) L) {j : Nat} (hj : j < L.length) (hx : a.eval x = .pointer (some ⟨b, off + j * 3, none⟩))
    (h : wpList Tryz.prog ops Q rest (a.put o.dst L[j].v) w) : wpList Tryz.prog ops Q (o :: rest) a w := by
  obtain ⟨b', off', e, hb, hrg⟩ := hr.range hj
  cases e
  exact wpList_load_mid hgd 51 x hop b (off + j * 3) hx L[j].cells _ hrg Tryz.underlying51 rfl cs_info h
theorem wpList_box_cs (hgd : o.guard = none) (x : Operand) (hop : o.op = .box 51 x) (b : Cs) (hx : a.eval x = b.v)
    (h : ∀ W, Blk W w.heap.size 51 b.cells → w.heap.size + 1 ≤ W.heap.size → Below w.heap.size w W → wpList Tryz.prog ops Q rest (a.put o.dst (.pointer (some ⟨w.heap.size, 0, none⟩))) W) : wpList Tryz.prog ops Q (o :: rest) a w :=
  wpList_plain hgd fun _ hK => by
    unfold Oper.wp execOp
    have e : (Instr.box 51 b.v).run Tryz.prog w = .ok (.pointer (some ⟨w.heap.size, 0, none⟩)) (w.alloc (.cells b.cells.toArray 51)) := by
      simp [Instr.box, Sem.run_bind, newVar, newRow]
      rfl
    simp only [hop, hx, Sem.run_bind, e, Result.andThen_ok, Sem.run_pure]
    obtain ⟨h1, h2, h3⟩ := fresh1 (w := w) (a := b.cells) (t := 51) rfl
    exact hK _ _ (h _ h1 h2 h3)
end
theorem ret_cs {fn : Func} {R : Ending → World → Prop} {a : Act} {w : World} {p : Tmp} {g : Nat} {T0 : TypeId} {b : Cs} (hb : Blk w g T0 b.cells) (h : fn.results = #[.cell p 51]) (hd : a.defers = [])
    (hp : a.tmps.getD p undef = .pointer (some ⟨g, 0, none⟩)) (hR : R (.returned b.v) w) : bodyPost Tryz.prog fn R .ret a w :=
  ret_mem1 h hd hp hb.cs hR
theorem va4_at {w : World} {b o : Nat} {L : List Va} (h : ERow eVa w (some ⟨b, o, none⟩) L) {j : Nat} (hj : j < L.length) :
    w.cell? ⟨b, o + j * 4, none⟩ = some (.int .i64 L[j].k) ∧ w.cell? ⟨b, o + j * 4 + 1, none⟩ = some (.int .i64 L[j].n) ∧ w.cell? ⟨b, o + j * 4 + 2, none⟩ = some (.float .f64 L[j].f) ∧ w.cell? ⟨b, o + j * 4 + 3, none⟩ = some (txt L[j].s) := by
  obtain ⟨b', o', e, -, hc⟩ := h.at_ hj
  cases e
  exact ⟨hc 0 _ rfl, hc 1 _ rfl, hc 2 _ rfl, hc 3 _ rfl⟩
namespace Ev
/-- The whole numbers among values. -/
def wholeN (vs : List Va) : List Int := (vs.filter fun v => v.k == 1).map (·.n)
theorem wholeN_snoc (vs : List Va) (v : Va) : wholeN (vs ++ [v]) = wholeN vs ++ if v.k = 1 then [v.n] else [] := by
  unfold wholeN
  rw [List.filter_append, List.map_append]
  congr 1
  by_cases h : v.k = 1 <;> simp [h]
/-- How many unlike values are among the first i. -/
def distN (S : List Va) : Nat → Nat
  | 0 => 0
  | i + 1 => distN S i + if i = 0 ∨ Key.vord (nth S (i - 1)) (nth S i) ≠ 0 then 1 else 0
theorem distN_le (S : List Va) : ∀ i, distN S i ≤ i
  | 0 => Nat.le_refl 0
  | i + 1 => by
    have := distN_le S i
    unfold distN
    split <;> omega
theorem distN_pos (S : List Va) : ∀ i, 0 < i → 0 < distN S i
  | 0, h => by omega
  | 1, _ => by unfold distN; simp
  | i + 2, _ => by
    have := distN_pos S (i + 1) (by omega)
    unfold distN
    omega
/-- The k-th bound. -/
def boundN (W : List Int) (k : Nat) : Int := W.getD (k * (W.length - 1) / 8) 0
def boundsN (W : List Int) (k : Nat) : List Int := (List.range k).map (boundN W)
theorem boundsN_len (W : List Int) (k : Nat) : (boundsN W k).length = k := by unfold boundsN; simp
theorem boundsN_snoc (W : List Int) (k : Nat) : boundsN W (k + 1) = boundsN W k ++ [boundN W k] := by unfold boundsN; rw [List.range_succ, List.map_append]; rfl
def boundsC (W : List Int) : List Int := if W = [] then [] else boundsN W 9
end Ev
end Go.Proofs.YtjdffhonljhpcaaGreat
end

section
/-
  The contracts of value.Same and stats.column.
-/
namespace Go.Proofs.YtjdffhonljhpcaaGreat
set_option linter.unusedSimpArgs false
set_option linter.unusedVariables false
open Go.RowKit

/-- What answers what is known of a column. -/
def RetCs (w : World) (d n : Int) (b : List Int) (e : Ending) (w' : World) : Prop := ∃ A c, e = .returned (Cs.v ⟨d, n, A, b, c⟩) ∧ EOwn eI64 w' w.heap.size A c b ∧ Below w.heap.size w w'
/-- Where column stands. -/
structure ColAt (w W : World) (g4 g5 : Nat) (d n : Int) (A : Option Addr) (c : Nat) (b : List Int) (A6 : Option Addr) (c6 : Nat) (l : List Int) : Prop where
  b4 : Blk W g4 51 Cs.nul.cells
  b5 : Blk W g5 51 (Cs.cells ⟨d, n, A, b, c⟩)
  o6 : EOwn eI64 W (g5 + 1) A6 c6 l
  o5 : EOwn eI64 W (g5 + 1) A c b
  size : g5 + 1 ≤ W.heap.size
  below : Below w.heap.size w W
theorem ColAt.go {w W W' : World} {g4 g5 : Nat} {d n : Int} {A : Option Addr} {c : Nat} {b : List Int} {A6 : Option Addr} {c6 : Nat} {l : List Int} (h : ColAt w W g4 g5 d n A c b A6 c6 l) (hB : Below W.heap.size W W') : ColAt w W' g4 g5 d n A c b A6 c6 l :=
  ⟨h.b4.below hB, h.b5.below hB, h.o6.below hB, h.o5.below hB, Nat.le_trans h.size hB.size, h.below.then hB⟩
theorem ColAt.setD {w W : World} {g4 g5 : Nat} {d n : Int} {A : Option Addr} {c : Nat} {b : List Int} {A6 : Option Addr} {c6 : Nat} {l : List Int} (h : ColAt w W g4 g5 d n A c b A6 c6 l) (h45 : g4 < g5) (hw : w.heap.size ≤ g4) (d' : Int) :
    ColAt w (W.setCell ⟨g5, 0, none⟩ (.int .i64 d')) g4 g5 d' n A c b A6 c6 l :=
  ⟨h.b4.other ⟨g5, 0, none⟩ (by show g4 ≠ g5; omega) _, h.b5.set 0 _, h.o6.set ⟨g5, 0, none⟩ (fun a ha => by have := (h.o6.block a ha).1; show a.block ≠ g5; omega) _, h.o5.set ⟨g5, 0, none⟩ (fun a ha => by have := (h.o5.block a ha).1; show a.block ≠ g5; omega) _, by simpa using h.size, h.below.setCell (by show w.heap.size ≤ g5; omega) _⟩
theorem ColAt.app {w W w3 : World} {g4 g5 : Nat} {d n : Int} {A6 : Option Addr} {c6 : Nat} {l : List Int} (h : ColAt w W g4 g5 d n none 0 [] A6 c6 l) (h45 : g4 < g5) (hw : w.heap.size ≤ g4) {W' : World} (hB : Below W.heap.size W W') {A3 : Option Addr} {c3 : Nat} {m : List Int}
    (ho3 : EOwn eI64 w3 (g5 + 1) A3 c3 m) (hb3 : Below (g5 + 1) W' w3) (hg3 : W'.grownBy w3 (A6.map (·.block))) : ColAt w w3 g4 g5 d n none 0 [] A3 c3 m := by
  have hne : ∀ g, g ≤ g5 → some g ≠ A6.map (·.block) := fun g hg e => by
    cases hA : A6 with
    | none => rw [hA] at e; simp at e
    | some a => rw [hA] at e; have := (h.o6.block a hA).1; simp at e; omega
  have hs := hg3.size
  have := h.size
  have := hB.size
  exact ⟨(h.b4.below hB).grown hg3 (hne _ (by omega)), (h.b5.below hB).grown hg3 (hne _ (Nat.le_refl _)), ho3, EOwn.nil _ _, by omega, (h.below.then hB).trans (hb3.mono (by omega))⟩
end Go.Proofs.YtjdffhonljhpcaaGreat
end

section
/-
  Printed by gen/share.py: the contracts of stats.Share's closures.
-/
namespace Go.Proofs.YtjdffhonljhpcaaGreat
set_option linter.unusedSimpArgs false
set_option linter.unusedVariables false
open Go.RowKit

namespace Ev
/-- 0, or a number, or a most. -/
def near (n m : Int) : Int := if 0 < if m < n then m else n then if m < n then m else n else 0
theorem near_le {n m : Int} (h : 0 ≤ m) : 0 ≤ near n m ∧ near n m ≤ m := by unfold near; (repeat' split) <;> omega
/-- How many of b are guessed, by the bounds for which p holds. -/
def belowN (b : Int) (v : Va) (bs : List Int) (p : Int → Bool) : Int := if v.k ≠ 1 ∨ bs = [] then b / 3 else (b * (bs.countP p : Nat)) / bs.length
end Ev
theorem countI_take {p : Int → Bool} {S : List Int} {k : Nat} (h : k < S.length) : (S.take (k + 1)).countP p = (S.take k).countP p + if p S[k] then 1 else 0 := by
  rw [List.take_succ_eq_append_getElem h, List.countP_append]
  congr 1
  rw [List.countP_cons, List.countP_nil]
  simp
theorem part_div {b : Int} {n m : Nat} (hb0 : 0 ≤ b) (hb1 : b ≤ 1000) (hn : n ≤ 1000) (hm : 0 < m) (hm2 : m ≤ 1000) : wrap64 ((wrap64 (b * (n : Int))).tdiv (m : Int)) = b * (n : Int) / (m : Int) := by
  obtain ⟨c, rfl⟩ : ∃ c : Nat, b = (c : Int) := ⟨b.toNat, by omega⟩
  rw [show ((c : Int) * (n : Int)) = ((c * n : Nat) : Int) from rfl]
  have h1 : c * n ≤ 1000 * 1000 := Nat.mul_le_mul (by omega) hn
  generalize c * n = p at h1
  have e1 : wrap64 (p : Int) = (p : Int) := by unfold wrap64; omega
  rw [e1]
  have e2 : (p : Int).tdiv (m : Int) = ((p / m : Nat) : Int) := rfl
  have e3 : (p : Int) / (m : Int) = ((p / m : Nat) : Int) := rfl
  have h2 : p / m ≤ p := Nat.div_le_self p m
  rw [e2, e3]
  have h3 : p / m ≤ 1000000 := Nat.le_trans h2 (by omega)
  generalize p / m = q at h3
  unfold wrap64
  omega
theorem is2_any (w : World) (b : Int) (g : Nat) (T : TypeId) (v : Va) (hb : Blk w g T v.cells) : Calls Tryz.prog 82 #[.int .i64 b, .pointer (some ⟨g, 0, none⟩)] w fun e w' => e = .returned (.bool (decide (b < v.n))) ∧ w' = w := by
  have c1 := hb.cell 1
  simp only [Va.cells, List.getElem?_cons_zero, List.getElem?_cons_succ] at c1
  obtain ⟨n, hn⟩ : ∃ n, v.n = n := ⟨_, rfl⟩
  rw [hn] at c1
  have HN := Lib.hid hn
  clear hn
  go_enter Tryz.func82, Tryz.ntmps82
  go_wp2_with fail
  go_ret
  exact ⟨by rw [HN.out]; rfl, rfl⟩
set_option maxRecDepth 20000 in
set_option maxHeartbeats 4000000 in
theorem below2_any (w : World) (g7 g5 g9 : Nat) (T7 T5 T9 : TypeId) (v : Va) (c : Cs) (b : Int) (h7 : Blk w g7 T7 v.cells) (h5 : Blk w g5 T5 c.cells) (h9 : Blk w g9 T9 [.int .i64 b]) (hr : ERow eI64 w c.a c.b) (hl : c.b.length ≤ 1000) (hb0 : 0 ≤ b) (hb1 : b ≤ 1000) :
    Calls Tryz.prog 81 #[.func (.func 82) #[] #[.pointer (some ⟨g7, 0, none⟩)], .pointer (some ⟨g7, 0, none⟩), .pointer (some ⟨g5, 0, none⟩), .pointer (some ⟨g9, 0, none⟩)] w
      fun e w' => e = .returned (.int .i64 (Ev.belowN b v c.b (fun b => decide (b < v.n)))) ∧ w' = w := by
  have HIS := Lib.hid (fun x => is2_any w x g7 T7 v h7)
  have HR := Lib.hid hr
  have c0 := h7.cell 0
  have d2 := h5.cell 2
  have e0 := h9.cell 0
  simp only [Va.cells, Cs.cells, List.getElem?_cons_zero, List.getElem?_cons_succ] at c0 d2 e0
  clear h7 h5 h9 hr
  obtain ⟨p, hp⟩ : ∃ p : Int → Bool, (fun b => decide (b < v.n)) = p := ⟨_, rfl⟩
  have HIP : Hid (∀ x, Calls Tryz.prog 82 #[.int .i64 x, .pointer (some ⟨g7, 0, none⟩)] w fun e w' => e = .returned (.bool (p x)) ∧ w' = w) := fun x => by rw [← hp]; exact HIS.out x
  rw [hp]
  obtain ⟨D, hD⟩ : ∃ D, Ev.belowN b v c.b p = D := ⟨_, rfl⟩
  rw [hD]
  have HD := Lib.hid hD
  clear hD hp HIS
  go_enter Tryz.func81, Tryz.ntmps81
  by_cases hk : v.k = 1
  · rw [hk] at c0
    by_cases hb : c.b = []
    · have hlb : ((c.b.length : Int) == 0) = true := by simp [hb]
      have HF : Hid (D = b / 3) := by show _ = _; rw [← HD.out]; unfold Ev.belowN; rw [if_pos (.inr hb)]
      clear hb hk
      go_wp2_with fail
      go_ret
      exact ⟨by rw [HF.out]; rfl, rfl⟩
    · have hlb : ((c.b.length : Int) == 0) = false := by simpa using hb
      have hlp : 0 < c.b.length := List.length_pos_iff.2 hb
      have HF : Hid (D = (b * (c.b.countP p : Nat)) / c.b.length) := by show _ = _; rw [← HD.out]; unfold Ev.belowN; rw [if_neg (by rintro (h | h); exact h hk; exact hb h)]
      clear hb hk
      have HST : Hid ((0 : Nat) = (c.b.take 0).countP p) := by show _ = _; simp
      go_upto_region 5 with fail
      go_loopw [6, 23] (fun nv iv wr => ∃ (n i : Nat), i ≤ c.b.length ∧ n ≤ i ∧ nv = .int .i64 (n : Int) ∧ iv = .int .i64 (i : Int) ∧ Hid (n = (c.b.take i).countP p) ∧ wr = w) (fun _ iv _ => c.b.length - (intOf iv).toNat)
      case atStart => exact ⟨0, 0, Nat.zero_le _, Nat.le_refl _, by go_num, by go_num, HST.out, by first | rfl | trivial⟩
      case round =>
        obtain ⟨n, i, hi, hni, rfl, rfl, HJ, rfl⟩ := hrel
        clear HST
        by_cases hlt : i < c.b.length
        · have hii : (i : Int) < (c.b.length : Int) := by omega
          obtain ⟨ab, ao, hA, -, q0⟩ := i64_at HR.out hlt
          have HCT : Hid ((c.b.take (i + 1)).countP p = n + if p c.b[i] then 1 else 0) := by show _ = _; rw [countI_take hlt, ← HJ.out]
          generalize c.b[i] = x at q0 HCT
          rw [hA]
          clear hA
          go_wp2_with fail
          refine (HIP.out x).mono ?_
          rintro e w' ⟨rfl, rfl⟩
          clear q0
          cases hb : p x with
          | true =>
            have HR2 : Hid (n + 1 = (c.b.take (i + 1)).countP p) := by show _ = _; rw [HCT.out]; simp [hb]
            clear hb
            go_wp2_with fail
            go_roundw
            case rel => exact ⟨n + 1, i + 1, by omega, by omega, by go_num, by go_num, HR2.out, by first | rfl | trivial⟩
            case measure => simp [intOf]; omega
          | false =>
            have HR2 : Hid (n = (c.b.take (i + 1)).countP p) := by show _ = _; rw [HCT.out]; simp [hb]
            clear hb
            go_wp2_with fail
            go_roundw
            case rel => exact ⟨n, i + 1, by omega, by omega, by go_num, by go_num, HR2.out, by first | rfl | trivial⟩
            case measure => simp [intOf]; omega
        · have hii : ¬ (i : Int) < (c.b.length : Int) := by omega
          have HN : Hid (n = c.b.countP p) := by show _ = _; rw [HJ.out, List.take_of_length_le (by omega)]
          have hq := part_div (n := n) (m := c.b.length) hb0 hb1 (by omega) hlp hl
          have HQ := Lib.hid hq
          go_wp2_with fail
          go_ret
          exact ⟨by rw [HF.out, ← HN.out]; rfl, rfl⟩
  · have hkb : (v.k != 1) = true := by simpa using hk
    have HF : Hid (D = b / 3) := by show _ = _; rw [← HD.out]; unfold Ev.belowN; rw [if_pos (.inl hk)]
    clear hk
    go_wp2_with fail
    go_ret
    exact ⟨by rw [HF.out]; rfl, rfl⟩
theorem is3_any (w : World) (b : Int) (g : Nat) (T : TypeId) (v : Va) (hb : Blk w g T v.cells) : Calls Tryz.prog 83 #[.int .i64 b, .pointer (some ⟨g, 0, none⟩)] w fun e w' => e = .returned (.bool (decide (b ≤ v.n))) ∧ w' = w := by
  have c1 := hb.cell 1
  simp only [Va.cells, List.getElem?_cons_zero, List.getElem?_cons_succ] at c1
  obtain ⟨n, hn⟩ : ∃ n, v.n = n := ⟨_, rfl⟩
  rw [hn] at c1
  have HN := Lib.hid hn
  clear hn
  go_enter Tryz.func83, Tryz.ntmps83
  go_wp2_with fail
  go_ret
  exact ⟨by rw [HN.out]; rfl, rfl⟩
set_option maxRecDepth 20000 in
set_option maxHeartbeats 4000000 in
theorem below3_any (w : World) (g7 g5 g9 : Nat) (T7 T5 T9 : TypeId) (v : Va) (c : Cs) (b : Int) (h7 : Blk w g7 T7 v.cells) (h5 : Blk w g5 T5 c.cells) (h9 : Blk w g9 T9 [.int .i64 b]) (hr : ERow eI64 w c.a c.b) (hl : c.b.length ≤ 1000) (hb0 : 0 ≤ b) (hb1 : b ≤ 1000) :
    Calls Tryz.prog 81 #[.func (.func 83) #[] #[.pointer (some ⟨g7, 0, none⟩)], .pointer (some ⟨g7, 0, none⟩), .pointer (some ⟨g5, 0, none⟩), .pointer (some ⟨g9, 0, none⟩)] w
      fun e w' => e = .returned (.int .i64 (Ev.belowN b v c.b (fun b => decide (b ≤ v.n)))) ∧ w' = w := by
  have HIS := Lib.hid (fun x => is3_any w x g7 T7 v h7)
  have HR := Lib.hid hr
  have c0 := h7.cell 0
  have d2 := h5.cell 2
  have e0 := h9.cell 0
  simp only [Va.cells, Cs.cells, List.getElem?_cons_zero, List.getElem?_cons_succ] at c0 d2 e0
  clear h7 h5 h9 hr
  obtain ⟨p, hp⟩ : ∃ p : Int → Bool, (fun b => decide (b ≤ v.n)) = p := ⟨_, rfl⟩
  have HIP : Hid (∀ x, Calls Tryz.prog 83 #[.int .i64 x, .pointer (some ⟨g7, 0, none⟩)] w fun e w' => e = .returned (.bool (p x)) ∧ w' = w) := fun x => by rw [← hp]; exact HIS.out x
  rw [hp]
  obtain ⟨D, hD⟩ : ∃ D, Ev.belowN b v c.b p = D := ⟨_, rfl⟩
  rw [hD]
  have HD := Lib.hid hD
  clear hD hp HIS
  go_enter Tryz.func81, Tryz.ntmps81
  by_cases hk : v.k = 1
  · rw [hk] at c0
    by_cases hb : c.b = []
    · have hlb : ((c.b.length : Int) == 0) = true := by simp [hb]
      have HF : Hid (D = b / 3) := by show _ = _; rw [← HD.out]; unfold Ev.belowN; rw [if_pos (.inr hb)]
      clear hb hk
      go_wp2_with fail
      go_ret
      exact ⟨by rw [HF.out]; rfl, rfl⟩
    · have hlb : ((c.b.length : Int) == 0) = false := by simpa using hb
      have hlp : 0 < c.b.length := List.length_pos_iff.2 hb
      have HF : Hid (D = (b * (c.b.countP p : Nat)) / c.b.length) := by show _ = _; rw [← HD.out]; unfold Ev.belowN; rw [if_neg (by rintro (h | h); exact h hk; exact hb h)]
      clear hb hk
      have HST : Hid ((0 : Nat) = (c.b.take 0).countP p) := by show _ = _; simp
      go_upto_region 5 with fail
      go_loopw [6, 23] (fun nv iv wr => ∃ (n i : Nat), i ≤ c.b.length ∧ n ≤ i ∧ nv = .int .i64 (n : Int) ∧ iv = .int .i64 (i : Int) ∧ Hid (n = (c.b.take i).countP p) ∧ wr = w) (fun _ iv _ => c.b.length - (intOf iv).toNat)
      case atStart => exact ⟨0, 0, Nat.zero_le _, Nat.le_refl _, by go_num, by go_num, HST.out, by first | rfl | trivial⟩
      case round =>
        obtain ⟨n, i, hi, hni, rfl, rfl, HJ, rfl⟩ := hrel
        clear HST
        by_cases hlt : i < c.b.length
        · have hii : (i : Int) < (c.b.length : Int) := by omega
          obtain ⟨ab, ao, hA, -, q0⟩ := i64_at HR.out hlt
          have HCT : Hid ((c.b.take (i + 1)).countP p = n + if p c.b[i] then 1 else 0) := by show _ = _; rw [countI_take hlt, ← HJ.out]
          generalize c.b[i] = x at q0 HCT
          rw [hA]
          clear hA
          go_wp2_with fail
          refine (HIP.out x).mono ?_
          rintro e w' ⟨rfl, rfl⟩
          clear q0
          cases hb : p x with
          | true =>
            have HR2 : Hid (n + 1 = (c.b.take (i + 1)).countP p) := by show _ = _; rw [HCT.out]; simp [hb]
            clear hb
            go_wp2_with fail
            go_roundw
            case rel => exact ⟨n + 1, i + 1, by omega, by omega, by go_num, by go_num, HR2.out, by first | rfl | trivial⟩
            case measure => simp [intOf]; omega
          | false =>
            have HR2 : Hid (n = (c.b.take (i + 1)).countP p) := by show _ = _; rw [HCT.out]; simp [hb]
            clear hb
            go_wp2_with fail
            go_roundw
            case rel => exact ⟨n, i + 1, by omega, by omega, by go_num, by go_num, HR2.out, by first | rfl | trivial⟩
            case measure => simp [intOf]; omega
        · have hii : ¬ (i : Int) < (c.b.length : Int) := by omega
          have HN : Hid (n = c.b.countP p) := by show _ = _; rw [HJ.out, List.take_of_length_le (by omega)]
          have hq := part_div (n := n) (m := c.b.length) hb0 hb1 (by omega) hlp hl
          have HQ := Lib.hid hq
          go_wp2_with fail
          go_ret
          exact ⟨by rw [HF.out, ← HN.out]; rfl, rfl⟩
  · have hkb : (v.k != 1) = true := by simpa using hk
    have HF : Hid (D = b / 3) := by show _ = _; rw [← HD.out]; unfold Ev.belowN; rw [if_pos (.inl hk)]
    clear hk
    go_wp2_with fail
    go_ret
    exact ⟨by rw [HF.out]; rfl, rfl⟩
theorem is4_any (w : World) (b : Int) (g : Nat) (T : TypeId) (v : Va) (hb : Blk w g T v.cells) : Calls Tryz.prog 84 #[.int .i64 b, .pointer (some ⟨g, 0, none⟩)] w fun e w' => e = .returned (.bool (decide (v.n < b))) ∧ w' = w := by
  have c1 := hb.cell 1
  simp only [Va.cells, List.getElem?_cons_zero, List.getElem?_cons_succ] at c1
  obtain ⟨n, hn⟩ : ∃ n, v.n = n := ⟨_, rfl⟩
  rw [hn] at c1
  have HN := Lib.hid hn
  clear hn
  go_enter Tryz.func84, Tryz.ntmps84
  go_wp2_with fail
  go_ret
  exact ⟨by rw [HN.out]; rfl, rfl⟩
set_option maxRecDepth 20000 in
set_option maxHeartbeats 4000000 in
theorem below4_any (w : World) (g7 g5 g9 : Nat) (T7 T5 T9 : TypeId) (v : Va) (c : Cs) (b : Int) (h7 : Blk w g7 T7 v.cells) (h5 : Blk w g5 T5 c.cells) (h9 : Blk w g9 T9 [.int .i64 b]) (hr : ERow eI64 w c.a c.b) (hl : c.b.length ≤ 1000) (hb0 : 0 ≤ b) (hb1 : b ≤ 1000) :
    Calls Tryz.prog 81 #[.func (.func 84) #[] #[.pointer (some ⟨g7, 0, none⟩)], .pointer (some ⟨g7, 0, none⟩), .pointer (some ⟨g5, 0, none⟩), .pointer (some ⟨g9, 0, none⟩)] w
      fun e w' => e = .returned (.int .i64 (Ev.belowN b v c.b (fun b => decide (v.n < b)))) ∧ w' = w := by
  have HIS := Lib.hid (fun x => is4_any w x g7 T7 v h7)
  have HR := Lib.hid hr
  have c0 := h7.cell 0
  have d2 := h5.cell 2
  have e0 := h9.cell 0
  simp only [Va.cells, Cs.cells, List.getElem?_cons_zero, List.getElem?_cons_succ] at c0 d2 e0
  clear h7 h5 h9 hr
  obtain ⟨p, hp⟩ : ∃ p : Int → Bool, (fun b => decide (v.n < b)) = p := ⟨_, rfl⟩
  have HIP : Hid (∀ x, Calls Tryz.prog 84 #[.int .i64 x, .pointer (some ⟨g7, 0, none⟩)] w fun e w' => e = .returned (.bool (p x)) ∧ w' = w) := fun x => by rw [← hp]; exact HIS.out x
  rw [hp]
  obtain ⟨D, hD⟩ : ∃ D, Ev.belowN b v c.b p = D := ⟨_, rfl⟩
  rw [hD]
  have HD := Lib.hid hD
  clear hD hp HIS
  go_enter Tryz.func81, Tryz.ntmps81
  by_cases hk : v.k = 1
  · rw [hk] at c0
    by_cases hb : c.b = []
    · have hlb : ((c.b.length : Int) == 0) = true := by simp [hb]
      have HF : Hid (D = b / 3) := by show _ = _; rw [← HD.out]; unfold Ev.belowN; rw [if_pos (.inr hb)]
      clear hb hk
      go_wp2_with fail
      go_ret
      exact ⟨by rw [HF.out]; rfl, rfl⟩
    · have hlb : ((c.b.length : Int) == 0) = false := by simpa using hb
      have hlp : 0 < c.b.length := List.length_pos_iff.2 hb
      have HF : Hid (D = (b * (c.b.countP p : Nat)) / c.b.length) := by show _ = _; rw [← HD.out]; unfold Ev.belowN; rw [if_neg (by rintro (h | h); exact h hk; exact hb h)]
      clear hb hk
      have HST : Hid ((0 : Nat) = (c.b.take 0).countP p) := by show _ = _; simp
      go_upto_region 5 with fail
      go_loopw [6, 23] (fun nv iv wr => ∃ (n i : Nat), i ≤ c.b.length ∧ n ≤ i ∧ nv = .int .i64 (n : Int) ∧ iv = .int .i64 (i : Int) ∧ Hid (n = (c.b.take i).countP p) ∧ wr = w) (fun _ iv _ => c.b.length - (intOf iv).toNat)
      case atStart => exact ⟨0, 0, Nat.zero_le _, Nat.le_refl _, by go_num, by go_num, HST.out, by first | rfl | trivial⟩
      case round =>
        obtain ⟨n, i, hi, hni, rfl, rfl, HJ, rfl⟩ := hrel
        clear HST
        by_cases hlt : i < c.b.length
        · have hii : (i : Int) < (c.b.length : Int) := by omega
          obtain ⟨ab, ao, hA, -, q0⟩ := i64_at HR.out hlt
          have HCT : Hid ((c.b.take (i + 1)).countP p = n + if p c.b[i] then 1 else 0) := by show _ = _; rw [countI_take hlt, ← HJ.out]
          generalize c.b[i] = x at q0 HCT
          rw [hA]
          clear hA
          go_wp2_with fail
          refine (HIP.out x).mono ?_
          rintro e w' ⟨rfl, rfl⟩
          clear q0
          cases hb : p x with
          | true =>
            have HR2 : Hid (n + 1 = (c.b.take (i + 1)).countP p) := by show _ = _; rw [HCT.out]; simp [hb]
            clear hb
            go_wp2_with fail
            go_roundw
            case rel => exact ⟨n + 1, i + 1, by omega, by omega, by go_num, by go_num, HR2.out, by first | rfl | trivial⟩
            case measure => simp [intOf]; omega
          | false =>
            have HR2 : Hid (n = (c.b.take (i + 1)).countP p) := by show _ = _; rw [HCT.out]; simp [hb]
            clear hb
            go_wp2_with fail
            go_roundw
            case rel => exact ⟨n, i + 1, by omega, by omega, by go_num, by go_num, HR2.out, by first | rfl | trivial⟩
            case measure => simp [intOf]; omega
        · have hii : ¬ (i : Int) < (c.b.length : Int) := by omega
          have HN : Hid (n = c.b.countP p) := by show _ = _; rw [HJ.out, List.take_of_length_le (by omega)]
          have hq := part_div (n := n) (m := c.b.length) hb0 hb1 (by omega) hlp hl
          have HQ := Lib.hid hq
          go_wp2_with fail
          go_ret
          exact ⟨by rw [HF.out, ← HN.out]; rfl, rfl⟩
  · have hkb : (v.k != 1) = true := by simpa using hk
    have HF : Hid (D = b / 3) := by show _ = _; rw [← HD.out]; unfold Ev.belowN; rw [if_pos (.inl hk)]
    clear hk
    go_wp2_with fail
    go_ret
    exact ⟨by rw [HF.out]; rfl, rfl⟩
theorem is5_any (w : World) (b : Int) (g : Nat) (T : TypeId) (v : Va) (hb : Blk w g T v.cells) : Calls Tryz.prog 85 #[.int .i64 b, .pointer (some ⟨g, 0, none⟩)] w fun e w' => e = .returned (.bool (decide (v.n ≤ b))) ∧ w' = w := by
  have c1 := hb.cell 1
  simp only [Va.cells, List.getElem?_cons_zero, List.getElem?_cons_succ] at c1
  obtain ⟨n, hn⟩ : ∃ n, v.n = n := ⟨_, rfl⟩
  rw [hn] at c1
  have HN := Lib.hid hn
  clear hn
  go_enter Tryz.func85, Tryz.ntmps85
  go_wp2_with fail
  go_ret
  exact ⟨by rw [HN.out]; rfl, rfl⟩
set_option maxRecDepth 20000 in
set_option maxHeartbeats 4000000 in
theorem below5_any (w : World) (g7 g5 g9 : Nat) (T7 T5 T9 : TypeId) (v : Va) (c : Cs) (b : Int) (h7 : Blk w g7 T7 v.cells) (h5 : Blk w g5 T5 c.cells) (h9 : Blk w g9 T9 [.int .i64 b]) (hr : ERow eI64 w c.a c.b) (hl : c.b.length ≤ 1000) (hb0 : 0 ≤ b) (hb1 : b ≤ 1000) :
    Calls Tryz.prog 81 #[.func (.func 85) #[] #[.pointer (some ⟨g7, 0, none⟩)], .pointer (some ⟨g7, 0, none⟩), .pointer (some ⟨g5, 0, none⟩), .pointer (some ⟨g9, 0, none⟩)] w
      fun e w' => e = .returned (.int .i64 (Ev.belowN b v c.b (fun b => decide (v.n ≤ b)))) ∧ w' = w := by
  have HIS := Lib.hid (fun x => is5_any w x g7 T7 v h7)
  have HR := Lib.hid hr
  have c0 := h7.cell 0
  have d2 := h5.cell 2
  have e0 := h9.cell 0
  simp only [Va.cells, Cs.cells, List.getElem?_cons_zero, List.getElem?_cons_succ] at c0 d2 e0
  clear h7 h5 h9 hr
  obtain ⟨p, hp⟩ : ∃ p : Int → Bool, (fun b => decide (v.n ≤ b)) = p := ⟨_, rfl⟩
  have HIP : Hid (∀ x, Calls Tryz.prog 85 #[.int .i64 x, .pointer (some ⟨g7, 0, none⟩)] w fun e w' => e = .returned (.bool (p x)) ∧ w' = w) := fun x => by rw [← hp]; exact HIS.out x
  rw [hp]
  obtain ⟨D, hD⟩ : ∃ D, Ev.belowN b v c.b p = D := ⟨_, rfl⟩
  rw [hD]
  have HD := Lib.hid hD
  clear hD hp HIS
  go_enter Tryz.func81, Tryz.ntmps81
  by_cases hk : v.k = 1
  · rw [hk] at c0
    by_cases hb : c.b = []
    · have hlb : ((c.b.length : Int) == 0) = true := by simp [hb]
      have HF : Hid (D = b / 3) := by show _ = _; rw [← HD.out]; unfold Ev.belowN; rw [if_pos (.inr hb)]
      clear hb hk
      go_wp2_with fail
      go_ret
      exact ⟨by rw [HF.out]; rfl, rfl⟩
    · have hlb : ((c.b.length : Int) == 0) = false := by simpa using hb
      have hlp : 0 < c.b.length := List.length_pos_iff.2 hb
      have HF : Hid (D = (b * (c.b.countP p : Nat)) / c.b.length) := by show _ = _; rw [← HD.out]; unfold Ev.belowN; rw [if_neg (by rintro (h | h); exact h hk; exact hb h)]
      clear hb hk
      have HST : Hid ((0 : Nat) = (c.b.take 0).countP p) := by show _ = _; simp
      go_upto_region 5 with fail
      go_loopw [6, 23] (fun nv iv wr => ∃ (n i : Nat), i ≤ c.b.length ∧ n ≤ i ∧ nv = .int .i64 (n : Int) ∧ iv = .int .i64 (i : Int) ∧ Hid (n = (c.b.take i).countP p) ∧ wr = w) (fun _ iv _ => c.b.length - (intOf iv).toNat)
      case atStart => exact ⟨0, 0, Nat.zero_le _, Nat.le_refl _, by go_num, by go_num, HST.out, by first | rfl | trivial⟩
      case round =>
        obtain ⟨n, i, hi, hni, rfl, rfl, HJ, rfl⟩ := hrel
        clear HST
        by_cases hlt : i < c.b.length
        · have hii : (i : Int) < (c.b.length : Int) := by omega
          obtain ⟨ab, ao, hA, -, q0⟩ := i64_at HR.out hlt
          have HCT : Hid ((c.b.take (i + 1)).countP p = n + if p c.b[i] then 1 else 0) := by show _ = _; rw [countI_take hlt, ← HJ.out]
          generalize c.b[i] = x at q0 HCT
          rw [hA]
          clear hA
          go_wp2_with fail
          refine (HIP.out x).mono ?_
          rintro e w' ⟨rfl, rfl⟩
          clear q0
          cases hb : p x with
          | true =>
            have HR2 : Hid (n + 1 = (c.b.take (i + 1)).countP p) := by show _ = _; rw [HCT.out]; simp [hb]
            clear hb
            go_wp2_with fail
            go_roundw
            case rel => exact ⟨n + 1, i + 1, by omega, by omega, by go_num, by go_num, HR2.out, by first | rfl | trivial⟩
            case measure => simp [intOf]; omega
          | false =>
            have HR2 : Hid (n = (c.b.take (i + 1)).countP p) := by show _ = _; rw [HCT.out]; simp [hb]
            clear hb
            go_wp2_with fail
            go_roundw
            case rel => exact ⟨n, i + 1, by omega, by omega, by go_num, by go_num, HR2.out, by first | rfl | trivial⟩
            case measure => simp [intOf]; omega
        · have hii : ¬ (i : Int) < (c.b.length : Int) := by omega
          have HN : Hid (n = c.b.countP p) := by show _ = _; rw [HJ.out, List.take_of_length_le (by omega)]
          have hq := part_div (n := n) (m := c.b.length) hb0 hb1 (by omega) hlp hl
          have HQ := Lib.hid hq
          go_wp2_with fail
          go_ret
          exact ⟨by rw [HF.out, ← HN.out]; rfl, rfl⟩
  · have hkb : (v.k != 1) = true := by simpa using hk
    have HF : Hid (D = b / 3) := by show _ = _; rw [← HD.out]; unfold Ev.belowN; rw [if_pos (.inl hk)]
    clear hk
    go_wp2_with fail
    go_ret
    exact ⟨by rw [HF.out]; rfl, rfl⟩
end Go.Proofs.YtjdffhonljhpcaaGreat
end

section
/-
  Printed by mkup.py out of XVal and XValPOrd: the contracts of value.Clean and value.Order, with the count of draws.
-/
namespace Go.Proofs.YtjdffhonljhpcaaGreat
set_option linter.unusedSimpArgs false
set_option linter.unusedVariables false
open Go.RowKit

/-- 'Below', and no draw is taken back. -/
structure Up (B : Nat) (w w' : World) : Prop where
  b : Below B w w'
  d : w.drawn ≤ w'.drawn
/-- 'grownBy', and no draw is taken back. -/
structure GUp (w w' : World) (row : Option Nat) : Prop where
  g : w.grownBy w' row
  d : w.drawn ≤ w'.drawn
theorem Up.refl (B : Nat) (w : World) : Up B w w := ⟨Below.refl _ _, Nat.le_refl _⟩
theorem Up.trans {B : Nat} {a b c : World} (h : Up B a b) (k : Up B b c) : Up B a c := ⟨h.b.trans k.b, Nat.le_trans h.d k.d⟩
theorem Up.mono {B B' : Nat} {w w' : World} (h : Up B w w') (hB : B' ≤ B) : Up B' w w' := ⟨h.b.mono hB, h.d⟩
theorem Up.size {B : Nat} {w w' : World} (h : Up B w w') : w.heap.size ≤ w'.heap.size := h.b.size
theorem Up.drewR {B : Nat} {w w' : World} (h : Up B w w') : Up B w w'.drew := ⟨h.b.drewR, Nat.le_trans h.d (Nat.le_succ _)⟩
theorem Up.then {w w1 w2 : World} (h : Up w.heap.size w w1) (k : Up w1.heap.size w1 w2) : Up w.heap.size w w2 := h.trans (k.mono h.size)
theorem Up.setCell {B : Nat} {a w : World} (h : Up B a w) {p : Addr} (hp : B ≤ p.block) (u : Value) : Up B a (w.setCell p u) := ⟨h.b.setCell hp u, h.d⟩
theorem GUp.size {w w' : World} {row : Option Nat} (h : GUp w w' row) : w.heap.size ≤ w'.heap.size := h.g.size
theorem up_of_grown {B : Nat} {w0 w w' : World} {g : Nat} (h : Up B w0 w) (hg : GUp w w' (some g)) (hB : B ≤ g) (hs : B ≤ w.heap.size) : Up B w0 w' := ⟨below_of_grown h.b hg.g hB hs, Nat.le_trans h.d hg.d⟩
theorem drawn_setCells (g : Nat) : ∀ (cs : List Value) (i : Nat) (w : World), (w.setCells g i cs).drawn = w.drawn
  | [], _, _ => rfl
  | v :: r, i, w => drawn_setCells g r (i + 1) (w.setCell ⟨g, i, none⟩ v)
/-- What a call answers that leaves all that was there alone. -/
def RetU (w : World) (a : Va) (e : Ending) (w' : World) : Prop := e = .returned a.v ∧ Up w.heap.size w w'
section
variable {w : World} {ops : Array Oper} {rest : List Oper} {o : Oper} {a : Act} {Q : Exit → Act → World → Prop}
theorem wpList_alloc_vu (hgd : o.guard = none) (hop : o.op = .alloc 24)
    (h : ∀ W, Blk W w.heap.size 24 Key.nul.cells → w.heap.size + 1 ≤ W.heap.size → Up w.heap.size w W → wpList Tryz.prog ops Q rest (a.put o.dst (.pointer (some ⟨w.heap.size, 0, none⟩))) W) : wpList Tryz.prog ops Q (o :: rest) a w :=
  wpList_alloc_z hgd 24 hop (va_zero _) fun W hW => by
    obtain ⟨h1, h2, h3⟩ := fresh1 (a := Key.nul.cells) hW
    exact h W h1 h2 ⟨h3, by rw [← hW]; exact Nat.le_refl _⟩
theorem wpList_store_vu (hgd : o.guard = none) (hod : o.dst = none) (x y : Operand) (hop : o.op = .store 24 x y) (g : Nat) (hx : a.eval x = .pointer (some ⟨g, 0, none⟩)) (b : Va) (hy : a.eval y = b.v) {T0 : TypeId} {old : Va} (hb : Blk w g T0 old.cells)
    (h : ∀ W, Blk W g T0 b.cells → GUp w W (some g) → wpList Tryz.prog ops Q rest a W) : wpList Tryz.prog ops Q (o :: rest) a w := by
  have hput : a.put o.dst undef = a := by rw [hod]; rfl
  refine wpList_store_mid hgd 24 x y hop g 0 b.cells.toArray hx hy ?_ (va_info.trans (by rfl)) (all_oneCell_toArray b.cells_one) ?_
  · rw [List.size_toArray]
    exact hb.there 0 _ (Nat.le_refl _)
  · rw [hput]
    exact h _ (hb.setAll b.cells rfl) ⟨grown_setCells w g 0 b.cells, by rw [drawn_setCells]; exact Nat.le_refl _⟩
theorem wpList_box_vu (hgd : o.guard = none) (x : Operand) (hop : o.op = .box 24 x) (b : Va) (hx : a.eval x = b.v)
    (h : ∀ W, Blk W w.heap.size 24 b.cells → w.heap.size + 1 ≤ W.heap.size → Up w.heap.size w W → wpList Tryz.prog ops Q rest (a.put o.dst (.pointer (some ⟨w.heap.size, 0, none⟩))) W) : wpList Tryz.prog ops Q (o :: rest) a w :=
  wpList_plain hgd fun _ hK => by
    unfold Oper.wp execOp
    have e : (Instr.box 24 b.v).run Tryz.prog w = .ok (.pointer (some ⟨w.heap.size, 0, none⟩)) (w.alloc (.cells b.cells.toArray 24)) := by
      simp [Instr.box, Sem.run_bind, newVar, newRow]
      rfl
    simp only [hop, hx, Sem.run_bind, e, Result.andThen_ok, Sem.run_pure]
    obtain ⟨h1, h2, h3⟩ := fresh1 (w := w) (a := b.cells) (t := 24) rfl
    exact hK _ _ (h _ h1 h2 ⟨h3, Nat.le_refl _⟩)
end
set_option maxRecDepth 20000 in
set_option maxHeartbeats 1000000 in
theorem ofint_u (w : World) (n : Int) : Calls Tryz.prog 97 #[.int .i64 n] w (RetU w ⟨1, n, 0, []⟩) := by
  go_enter Tryz.func97, Tryz.ntmps97
  go_wp2_with (first | (refine wpList_alloc_vu rfl rfl ?_; intro W1 hb1 hz1 hB1) | (refine wpList_store_vu rfl rfl (.tmp 2) (.tmp 4) rfl w.heap.size rfl ⟨1, n, 0, []⟩ rfl hb1 ?_; intro W2 hb2 hg2))
  exact ret_va hb2 rfl rfl rfl ⟨rfl, up_of_grown hB1 hg2 (Nat.le_refl _) (by omega)⟩
set_option maxRecDepth 20000 in
set_option maxHeartbeats 1000000 in
theorem oftext_u (w : World) (s : List UInt8) : Calls Tryz.prog 99 #[txt s] w (RetU w ⟨3, 0, 0, s⟩) := by
  unfold txt
  go_enter Tryz.func99, Tryz.ntmps99
  go_wp2_with (first | (refine wpList_alloc_vu rfl rfl ?_; intro W1 hb1 hz1 hB1) | (refine wpList_store_vu rfl rfl (.tmp 2) (.tmp 4) rfl w.heap.size rfl ⟨3, 0, 0, s⟩ rfl hb1 ?_; intro W2 hb2 hg2))
  exact ret_va hb2 rfl rfl rfl ⟨rfl, up_of_grown hB1 hg2 (Nat.le_refl _) (by omega)⟩
set_option maxRecDepth 20000 in
set_option maxHeartbeats 1000000 in
theorem ofbool_u (w : World) (x : Bool) : Calls Tryz.prog 96 #[.bool x] w (RetU w ⟨4, if x then 1 else 0, 0, []⟩) := by
  go_enter Tryz.func96, Tryz.ntmps96
  go_upto_region 1 with (refine wpList_alloc_vu rfl rfl ?_; intro W1 hb1 hz1 hB1)
  go_upto_region 2 with (first | (refine wpList_alloc_vu rfl rfl ?_; intro W2 hb2 hz2 hB2) | (refine wpList_store_vu rfl rfl (.tmp 3) (.tmp 4) rfl W1.heap.size rfl ⟨4, 0, 0, []⟩ rfl hb2 ?_; intro W3 hb3 hg3))
  have hB3 : Up w.heap.size w W3 := up_of_grown (hB1.trans (hB2.mono hB1.size)) hg3 hB1.size (by omega)
  have h13 : Blk W3 w.heap.size 24 Key.nul.cells := (hb1.below hB2.b).grown hg3.g (by simp; omega)
  have hz3 := hg3.size
  have hz1' : w.heap.size + 2 ≤ W3.heap.size := by omega
  clear hb1 hB1 hB2 hg3 hb2 hz3 hz2
  cases x
  · go_wp2_with (first | (refine wpList_load_va rfl (.tmp 3) rfl W1.heap.size rfl hb3 ?_) | (refine wpList_store_vu rfl rfl (.tmp 2) (.tmp 7) rfl w.heap.size rfl ⟨4, 0, 0, []⟩ rfl h13 ?_; intro W4 hb4 hg4))
    exact ret_va hb4 rfl rfl rfl ⟨rfl, up_of_grown hB3 hg4 (Nat.le_refl _) (by omega)⟩
  · obtain ⟨-, e1, -, -, -, f1, -⟩ := Blk.c4 hb3
    go_upto_region 4 with fail
    have hb5 : Blk (W3.setCell ⟨W1.heap.size, 1, none⟩ (.int .i64 1)) W1.heap.size 24 (Va.cells ⟨4, 1, 0, []⟩) := hb3.set1
    have h15 := h13.other ⟨W1.heap.size, 1, none⟩ (by show w.heap.size ≠ W1.heap.size; omega) (.int .i64 1)
    have hB5 := hB3.setCell (p := ⟨W1.heap.size, 1, none⟩) (by show w.heap.size ≤ W1.heap.size; omega) (.int .i64 1)
    clear e1 f1 hb3 h13 hB3
    go_wp2_with (first | (refine wpList_load_va rfl (.tmp 3) rfl W1.heap.size rfl hb5 ?_) | (refine wpList_store_vu rfl rfl (.tmp 2) (.tmp 7) rfl w.heap.size rfl ⟨4, 1, 0, []⟩ rfl h15 ?_; intro W4 hb4 hg4))
    exact ret_va hb4 rfl rfl rfl ⟨rfl, up_of_grown hB5 hg4 (Nat.le_refl _) (by simp; omega)⟩
set_option maxRecDepth 20000 in
set_option maxHeartbeats 1000000 in
theorem ofreal_u (w : World) (f : Nat) (hf : f < two64) : Calls Tryz.prog 98 #[.float .f64 f] w (RetU w ⟨2, 0, Key.real1 f, []⟩) := by
  have HF := Lib.hid hf
  have HZ := Lib.hid (ford_zero hf)
  clear hf
  go_enter Tryz.func98, Tryz.ntmps98
  go_upto_region 1 with (refine wpList_alloc_vu rfl rfl ?_; intro W1 hb1 hz1 hB1)
  go_wp2_with fail
  refine (isnan_any _ f HF.out).mono ?_
  rintro e w1 ⟨rfl, rfl⟩
  by_cases hn : fnan f
  · have hr : Key.real1 f = 9221120237041090561 := by unfold Key.real1; rw [if_pos hn]
    have HR := Lib.hid hr
    have hd : decide (fnan f) = true := by simp [hn]
    rw [hd]
    clear hr hn
    go_wp2_with fail
    refine (nan_any _).mono ?_
    rintro e w1 ⟨rfl, rfl⟩
    go_wp2_with (refine wpList_store_vu rfl rfl (.tmp 2) (.tmp 11) rfl w.heap.size rfl ⟨2, 0, 9221120237041090561, []⟩ rfl hb1 ?_; intro W4 hb4 hg4)
    exact ret_va hb4 rfl rfl rfl ⟨by show Ending.returned (Va.v ⟨2, 0, _, []⟩) = .returned (Va.v ⟨2, 0, Key.real1 f, []⟩); rw [HR.out], up_of_grown hB1 hg4 (Nat.le_refl _) (by omega)⟩
  · have hd : decide (fnan f) = false := by simp [hn]
    rw [hd]
    by_cases hz : f % 9223372036854775808 = 0
    · have HR : Hid (Key.real1 f = 0) := by show _ = _; unfold Key.real1; rw [if_neg hn, if_pos hz]
      have ho : (FloatKind.f64.format.order f 0 == some Ordering.eq) = true := HZ.out.trans (decide_eq_true hz)
      clear hn hz HZ HF
      go_wp2_with (refine wpList_store_vu rfl rfl (.tmp 2) (.tmp 11) rfl w.heap.size rfl ⟨2, 0, 0, []⟩ rfl hb1 ?_; intro W4 hb4 hg4)
      exact ret_va hb4 rfl rfl rfl ⟨by show Ending.returned (Va.v ⟨2, 0, _, []⟩) = .returned (Va.v ⟨2, 0, Key.real1 f, []⟩); rw [HR.out], up_of_grown hB1 hg4 (Nat.le_refl _) (by omega)⟩
    · have HR : Hid (Key.real1 f = f) := by show _ = _; unfold Key.real1; rw [if_neg hn, if_neg hz]
      have ho : (FloatKind.f64.format.order f 0 == some Ordering.eq) = false := HZ.out.trans (decide_eq_false hz)
      clear hn hz HZ HF
      go_wp2_with (refine wpList_store_vu rfl rfl (.tmp 2) (.tmp 11) rfl w.heap.size rfl ⟨2, 0, f, []⟩ rfl hb1 ?_; intro W4 hb4 hg4)
      exact ret_va hb4 rfl rfl rfl ⟨by show Ending.returned (Va.v ⟨2, 0, _, []⟩) = .returned (Va.v ⟨2, 0, Key.real1 f, []⟩); rw [HR.out], up_of_grown hB1 hg4 (Nat.le_refl _) (by omega)⟩
set_option maxRecDepth 20000 in
set_option maxHeartbeats 1000000 in
theorem clean_u (w : World) (v : Va) (hv : v.ok) : Calls Tryz.prog 80 #[v.v] w (RetU w (Key.clean v)) := by
  have HF : Hid (v.f < two64) := hv.f1
  clear hv
  go_enter Tryz.func80, Tryz.ntmps80
  go_upto_region 1 with (first | (refine wpList_alloc_vu rfl rfl ?_; intro W2 hb2 hz2 hB2) | (refine wpList_box_vu rfl (.tmp 0) rfl v rfl ?_; intro W1 hb1 hz1 hB1))
  have h12 := hb1.below hB2.b
  have hB := hB1.trans (hB2.mono hB1.size)
  clear hb1 hB1 hB2
  obtain ⟨c0, c1, c2, c3, -⟩ := Blk.c4 h12
  go_upto_region 2 with fail
  by_cases k1 : v.k = 1
  · have HC := Lib.hid (Va.clean1 k1)
    go_wp2_with fail
    refine (ofint_u _ v.n).mono ?_
    rintro e W3 ⟨rfl, hB3⟩
    have hb3 := hb2.below hB3.b
    have hB3' := hB.trans (hB3.mono hB.size)
    clear c0 c1 c2 c3
    go_wp2_with (refine wpList_store_vu rfl rfl (.tmp 2) (.tmp 9) rfl W1.heap.size rfl ⟨1, v.n, 0, []⟩ rfl hb3 ?_; intro W4 hb4 hg4)
    exact ret_va hb4 rfl rfl rfl ⟨by show Ending.returned (Va.v _) = .returned (Va.v (Key.clean v)); rw [HC.out], up_of_grown hB3' hg4 (by omega) hB3'.size⟩
  by_cases k2 : v.k = 2
  · have HC := Lib.hid (Va.clean2 k2)
    go_wp2_with fail
    refine (ofreal_u _ v.f HF.out).mono ?_
    rintro e W3 ⟨rfl, hB3⟩
    have hb3 := hb2.below hB3.b
    have hB3' := hB.trans (hB3.mono hB.size)
    clear c0 c1 c2 c3
    go_wp2_with (refine wpList_store_vu rfl rfl (.tmp 2) (.tmp 14) rfl W1.heap.size rfl ⟨2, 0, Key.real1 v.f, []⟩ rfl hb3 ?_; intro W4 hb4 hg4)
    exact ret_va hb4 rfl rfl rfl ⟨by show Ending.returned (Va.v _) = .returned (Va.v (Key.clean v)); rw [HC.out], up_of_grown hB3' hg4 (by omega) hB3'.size⟩
  by_cases k3 : v.k = 3
  · have HC := Lib.hid (Va.clean3 k3)
    go_wp2_with fail
    refine (oftext_u _ v.s).mono ?_
    rintro e W3 ⟨rfl, hB3⟩
    have hb3 := hb2.below hB3.b
    have hB3' := hB.trans (hB3.mono hB.size)
    clear c0 c1 c2 c3
    go_wp2_with (refine wpList_store_vu rfl rfl (.tmp 2) (.tmp 19) rfl W1.heap.size rfl ⟨3, 0, 0, v.s⟩ rfl hb3 ?_; intro W4 hb4 hg4)
    exact ret_va hb4 rfl rfl rfl ⟨by show Ending.returned (Va.v _) = .returned (Va.v (Key.clean v)); rw [HC.out], up_of_grown hB3' hg4 (by omega) hB3'.size⟩
  by_cases k4 : v.k = 4
  · have HC : Hid (Key.clean v = ⟨4, if (v.n != 0) = true then 1 else 0, 0, []⟩) := by
      show _ = _
      rw [Va.clean4 k4]
      by_cases hn : v.n = 0 <;> simp [hn]
    go_wp2_with fail
    refine (ofbool_u _ _).mono ?_
    generalize (if (v.n != 0) = true then (1 : Int) else 0) = m at HC ⊢
    rintro e W3 ⟨rfl, hB3⟩
    have hb3 := hb2.below hB3.b
    have hB3' := hB.trans (hB3.mono hB.size)
    clear c0 c1 c2 c3
    go_wp2_with (refine wpList_store_vu rfl rfl (.tmp 2) (.tmp 25) rfl W1.heap.size rfl ⟨4, m, 0, []⟩ rfl hb3 ?_; intro W4 hb4 hg4)
    exact ret_va hb4 rfl rfl rfl ⟨by show Ending.returned (Va.v _) = .returned (Va.v (Key.clean v)); rw [HC.out], up_of_grown hB3' hg4 (by omega) hB3'.size⟩
  · have HC := Lib.hid (Va.clean0 k1 k2 k3 k4)
    have d1 : (v.k == 1) = false := by simpa using k1
    have d2 : (v.k == 2) = false := by simpa using k2
    have d3 : (v.k == 3) = false := by simpa using k3
    have d4 : (v.k == 4) = false := by simpa using k4
    go_wp2_with (refine wpList_store_vu rfl rfl (.tmp 2) (.tmp 26) rfl W1.heap.size rfl Key.nul rfl hb2 ?_; intro W4 hb4 hg4)
    exact ret_va hb4 rfl rfl rfl ⟨by show Ending.returned (Va.v _) = .returned (Va.v (Key.clean v)); rw [HC.out], up_of_grown hB hg4 (by omega) hB.size⟩
set_option maxRecDepth 20000 in
set_option maxHeartbeats 4000000 in
theorem pord_u (w : World) (a b : Va) (ha : a.ok) (hb : b.ok) : Calls Tryz.prog 102 #[a.v, b.v] w fun e w' => e = .returned (.int .i64 (Key.vord (Key.clean a) (Key.clean b))) ∧ Up w.heap.size w w' := by
  have HA := Lib.hid ha
  have HB := Lib.hid hb
  have HXO := Lib.hid (Ev.clean_ok ha)
  have HYO := Lib.hid (Ev.clean_ok hb)
  clear ha hb
  go_enter Tryz.func102, Tryz.ntmps102
  go_upto_region 1 with (first | (refine wpList_box_vu rfl (.tmp 0) rfl a rfl ?_; intro W1 hb1 hz1 hB1) | (refine wpList_box_vu rfl (.tmp 1) rfl b rfl ?_; intro W2 hb2 hz2 hB2))
  have h12 := hb1.below hB2.b
  have hB := hB1.trans (hB2.mono hB1.size)
  clear hb1 hB1 hB2
  have h1d := h12.drew
  have h2d := hb2.drew
  refine wp_region_plan (.take 0 (.take 2 (.run 1 [2] (.run 3 [] (.run 4 [] (.run 5 [] .fin)))))) (by kernel_rfl) (by kernel_rfl) (by kernel_rfl) (by kernel_rfl) ?_
  -- regions that clean two values: 2 3 their slots, 8 10 the calls' slots, $5 the function; leaves h16, hb6, HB6
  repeat' (first | (refine hZ _ _ ?_; clear hZ) | (refine hZ _ ?_; clear hZ) | (refine hZ ?_; clear hZ) | rw [again_nil] | rw [walk_fin] | ((first | rw [walk_take] | rw [walk_run] | rw [again_cons]); intro Z hZ; simp only [sel, List.getElem?_toArray, List.getElem?_cons_zero, List.getElem?_cons_succ]; go_wp2_with (first | (refine wpList_load_va rfl (.tmp 2) rfl w.heap.size rfl h1d ?_) | (refine wpList_load_va rfl (.tmp 3) rfl W1.heap.size rfl h2d ?_))))
  refine (clean_u _ a HA.out).mono ?_
  rintro e W3 ⟨rfl, hB3⟩
  have h1e := h1d.below hB3.b
  have h2e := h2d.below hB3.b
  have hBe := hB.drewR.trans (hB3.mono hB.size)
  have hze : W2.heap.size ≤ W3.heap.size := hB3.size
  clear h1d h2d hB3 h12 hb2 hB
  go_wp2_with fail
  repeat' (first | (refine hZ _ _ ?_; clear hZ) | (refine hZ _ ?_; clear hZ) | (refine hZ ?_; clear hZ) | rw [again_nil] | rw [walk_fin] | ((first | rw [walk_take] | rw [walk_run] | rw [again_cons]); intro Z hZ; simp only [sel, List.getElem?_toArray, List.getElem?_cons_zero, List.getElem?_cons_succ]; go_wp2_with (first | (refine wpList_load_va rfl (.tmp 3) rfl W1.heap.size rfl h2e ?_))))
  refine (clean_u _ b HB.out).mono ?_
  rintro e W4 ⟨rfl, hB4⟩
  have h1f := h1e.below hB4.b
  have h2f := h2e.below hB4.b
  have hBf := hBe.trans (hB4.mono hBe.size)
  have hzf : W3.heap.size ≤ W4.heap.size := hB4.size
  clear h1e h2e hB4 hBe
  go_wp2_with fail
  repeat' (first | (refine hZ _ _ ?_; clear hZ) | (refine hZ _ ?_; clear hZ) | (refine hZ ?_; clear hZ) | rw [again_nil] | rw [walk_fin] | ((first | rw [walk_take] | rw [walk_run] | rw [again_cons]); intro Z hZ; simp only [sel, List.getElem?_toArray, List.getElem?_cons_zero, List.getElem?_cons_succ]; go_wp2_with (first | (refine wpList_store_vu rfl rfl (.tmp 2) (.tmp 8) rfl w.heap.size rfl (Key.clean a) rfl h1f ?_; intro W5 hb5 hg5; have h25 := h2f.grown hg5.g (by simp; omega)) | (refine wpList_store_vu rfl rfl (.tmp 3) (.tmp 10) rfl W1.heap.size rfl (Key.clean b) rfl h25 ?_; intro W6 hb6 hg6))))
  have h16 : Blk W6 w.heap.size 24 (Key.clean a).cells := hb5.grown hg6.g (by simp; omega)
  have hB5 : Up w.heap.size w W5 := up_of_grown hBf hg5 (Nat.le_refl _) (by omega)
  have HB6 : Hid (Up w.heap.size w W6) := up_of_grown hB5 hg6 (by omega) hB5.size
  clear h1f h2f hBf hb5 hg5 h25 hg6 hB5 HA HB
  generalize hX : Key.clean a = x at HXO h16 ⊢
  generalize hY : Key.clean b = y at HYO hb6 ⊢
  have HX := Lib.hid hX
  have HY := Lib.hid hY
  clear hX hY
  clear hze hzf hz1 hz2
  obtain ⟨c0, c1, c2, c3, -⟩ := Blk.c4 h16
  obtain ⟨d0, d1, d2, d3, -⟩ := Blk.c4 hb6
  clear h16 hb6
  by_cases hk : x.k = y.k
  · have hkb : (x.k != y.k) = false := by simp [hk]
    go_upto_region 4 with fail
    have HKK := Lib.hid hk
    clear hk hkb
    by_cases k2 : y.k = 2
    · have HVL := Lib.hid (Key.vless_real HKK.out (by rw [HKK.out]; exact k2))
      have HVG := Lib.hid (Key.vless_real HKK.out.symm k2)
      have k2' : x.k = 2 := HKK.out.trans k2
      rw [k2'] at c0
      clear k2 k2'
      go_upto_region 6 with fail
      by_cases nx : fnan x.f
      · have hdx : decide (fnan x.f) = true := by simp [nx]
        by_cases ny : fnan y.f
        · have hdy : decide (fnan y.f) = true := by simp [ny]
          have HV := Lib.hid (Key.vord_eq (a := x) (b := y) (fun h => by rcases HVL.out.1 h with h | h <;> exact h.1 nx) (fun h => by rcases HVG.out.1 h with h | h <;> exact h.1 ny))
          clear nx ny
          refine wp_region_plan (.take 0 (.take 1 (.take 3 (.take 4 (.run 2 [3, 4] (.run 5 [] (.take 6 (.take 7 .fin)))))))) (by kernel_rfl) (by kernel_rfl) (by kernel_rfl) (by kernel_rfl) ?_
          repeat' (first | (refine hZ _ _ ?_; clear hZ) | (refine hZ _ ?_; clear hZ) | (refine hZ ?_; clear hZ) | rw [again_nil] | rw [walk_fin] | ((first | rw [walk_take] | rw [walk_run] | rw [again_cons]); intro Z hZ; simp only [sel, List.getElem?_toArray, List.getElem?_cons_zero, List.getElem?_cons_succ]; go_wp2_with (fail)))
          refine (isnan_any _ _ HXO.out.f1).mono ?_
          rintro e wq ⟨rfl, hwq⟩
          rw [hwq, hdx]
          clear hwq wq
          go_wp2_with fail
          repeat' (first | (refine hZ _ _ ?_; clear hZ) | (refine hZ _ ?_; clear hZ) | (refine hZ ?_; clear hZ) | rw [again_nil] | rw [walk_fin] | ((first | rw [walk_take] | rw [walk_run] | rw [again_cons]); intro Z hZ; simp only [sel, List.getElem?_toArray, List.getElem?_cons_zero, List.getElem?_cons_succ]; go_wp2_with (fail)))
          refine (isnan_any _ _ HYO.out.f1).mono ?_
          rintro e wq ⟨rfl, hwq⟩
          rw [hwq, hdy]
          clear hwq wq
          go_wp2_with fail
          repeat' (first | (refine hZ _ _ ?_; clear hZ) | (refine hZ _ ?_; clear hZ) | (refine hZ ?_; clear hZ) | rw [again_nil] | rw [walk_fin] | ((first | rw [walk_take] | rw [walk_run] | rw [again_cons]); intro Z hZ; simp only [sel, List.getElem?_toArray, List.getElem?_cons_zero, List.getElem?_cons_succ]; go_wp2_with (fail)))
          go_wp2_with fail
          go_ret
          exact ⟨by rw [HX.out, HY.out, HV.out]; rfl, HB6.out.drewR⟩
        · have hdy : decide (fnan y.f) = false := by simp [ny]
          have HV := Lib.hid (Key.vord_gt (a := x) (b := y) (fun h => by rcases HVL.out.1 h with h | h <;> exact h.1 nx) (HVG.out.2 (.inl ⟨ny, nx⟩)))
          clear nx ny
          refine wp_region_plan (.take 0 (.take 1 (.take 3 (.take 4 (.run 2 [3, 4] (.run 5 [] (.take 6 (.take 7 .fin)))))))) (by kernel_rfl) (by kernel_rfl) (by kernel_rfl) (by kernel_rfl) ?_
          repeat' (first | (refine hZ _ _ ?_; clear hZ) | (refine hZ _ ?_; clear hZ) | (refine hZ ?_; clear hZ) | rw [again_nil] | rw [walk_fin] | ((first | rw [walk_take] | rw [walk_run] | rw [again_cons]); intro Z hZ; simp only [sel, List.getElem?_toArray, List.getElem?_cons_zero, List.getElem?_cons_succ]; go_wp2_with (fail)))
          refine (isnan_any _ _ HXO.out.f1).mono ?_
          rintro e wq ⟨rfl, hwq⟩
          rw [hwq, hdx]
          clear hwq wq
          go_wp2_with fail
          repeat' (first | (refine hZ _ _ ?_; clear hZ) | (refine hZ _ ?_; clear hZ) | (refine hZ ?_; clear hZ) | rw [again_nil] | rw [walk_fin] | ((first | rw [walk_take] | rw [walk_run] | rw [again_cons]); intro Z hZ; simp only [sel, List.getElem?_toArray, List.getElem?_cons_zero, List.getElem?_cons_succ]; go_wp2_with (fail)))
          refine (isnan_any _ _ HYO.out.f1).mono ?_
          rintro e wq ⟨rfl, hwq⟩
          rw [hwq, hdy]
          clear hwq wq
          go_wp2_with fail
          repeat' (first | (refine hZ _ _ ?_; clear hZ) | (refine hZ _ ?_; clear hZ) | (refine hZ ?_; clear hZ) | rw [again_nil] | rw [walk_fin] | ((first | rw [walk_take] | rw [walk_run] | rw [again_cons]); intro Z hZ; simp only [sel, List.getElem?_toArray, List.getElem?_cons_zero, List.getElem?_cons_succ]; go_wp2_with (fail)))
          go_wp2_with fail
          go_ret
          exact ⟨by rw [HX.out, HY.out, HV.out]; rfl, HB6.out.drewR⟩
      · have hdx : decide (fnan x.f) = false := by simp [nx]
        by_cases ny : fnan y.f
        · have hdy : decide (fnan y.f) = true := by simp [ny]
          have HV := Lib.hid (Key.vord_lt (a := x) (b := y) (HVL.out.2 (.inl ⟨nx, ny⟩)))
          clear nx ny
          refine wp_region_plan (.take 0 (.take 1 (.take 3 (.take 4 (.run 2 [3, 4] (.run 5 [] (.take 6 (.take 7 .fin)))))))) (by kernel_rfl) (by kernel_rfl) (by kernel_rfl) (by kernel_rfl) ?_
          repeat' (first | (refine hZ _ _ ?_; clear hZ) | (refine hZ _ ?_; clear hZ) | (refine hZ ?_; clear hZ) | rw [again_nil] | rw [walk_fin] | ((first | rw [walk_take] | rw [walk_run] | rw [again_cons]); intro Z hZ; simp only [sel, List.getElem?_toArray, List.getElem?_cons_zero, List.getElem?_cons_succ]; go_wp2_with (fail)))
          refine (isnan_any _ _ HXO.out.f1).mono ?_
          rintro e wq ⟨rfl, hwq⟩
          rw [hwq, hdx]
          clear hwq wq
          go_wp2_with fail
          repeat' (first | (refine hZ _ _ ?_; clear hZ) | (refine hZ _ ?_; clear hZ) | (refine hZ ?_; clear hZ) | rw [again_nil] | rw [walk_fin] | ((first | rw [walk_take] | rw [walk_run] | rw [again_cons]); intro Z hZ; simp only [sel, List.getElem?_toArray, List.getElem?_cons_zero, List.getElem?_cons_succ]; go_wp2_with (fail)))
          refine (isnan_any _ _ HYO.out.f1).mono ?_
          rintro e wq ⟨rfl, hwq⟩
          rw [hwq, hdy]
          clear hwq wq
          go_wp2_with fail
          repeat' (first | (refine hZ _ _ ?_; clear hZ) | (refine hZ _ ?_; clear hZ) | (refine hZ ?_; clear hZ) | rw [again_nil] | rw [walk_fin] | ((first | rw [walk_take] | rw [walk_run] | rw [again_cons]); intro Z hZ; simp only [sel, List.getElem?_toArray, List.getElem?_cons_zero, List.getElem?_cons_succ]; go_wp2_with (fail)))
          go_wp2_with fail
          go_ret
          exact ⟨by rw [HX.out, HY.out, HV.out]; rfl, HB6.out.drewR⟩
        · have hdy : decide (fnan y.f) = false := by simp [ny]
          have HV : Hid (Key.vord x y = Ev.cmpI (fsg x.f) (fsg y.f)) := by
            show _ = _
            unfold Ev.cmpI
            rcases Int.lt_trichotomy (fsg x.f) (fsg y.f) with h | h | h
            · rw [if_pos h]; exact Key.vord_lt (HVL.out.2 (.inr ⟨nx, ny, h⟩))
            · rw [if_neg (by omega), if_neg (by omega)]
              exact Key.vord_eq (fun h' => (HVL.out.1 h').elim (fun h' => ny h'.2) (fun h' => absurd h'.2.2 (by omega))) (fun h' => (HVG.out.1 h').elim (fun h' => nx h'.2) (fun h' => absurd h'.2.2 (by omega)))
            · rw [if_neg (by omega), if_pos h]
              exact Key.vord_gt (fun h' => (HVL.out.1 h').elim (fun h' => ny h'.2) (fun h' => absurd h'.2.2 (by omega))) (HVG.out.2 (.inr ⟨ny, nx, h⟩))
          have HCF := Lib.hid (fun w => cmpfloat_any w x.f y.f HXO.out.f1 HYO.out.f1 nx ny)
          clear nx ny
          refine wp_region_plan (.take 0 (.take 1 (.take 3 (.take 4 (.run 2 [3, 4] (.run 5 [] (.take 6 (.take 7 .fin)))))))) (by kernel_rfl) (by kernel_rfl) (by kernel_rfl) (by kernel_rfl) ?_
          repeat' (first | (refine hZ _ _ ?_; clear hZ) | (refine hZ _ ?_; clear hZ) | (refine hZ ?_; clear hZ) | rw [again_nil] | rw [walk_fin] | ((first | rw [walk_take] | rw [walk_run] | rw [again_cons]); intro Z hZ; simp only [sel, List.getElem?_toArray, List.getElem?_cons_zero, List.getElem?_cons_succ]; go_wp2_with (fail)))
          refine (isnan_any _ _ HXO.out.f1).mono ?_
          rintro e wq ⟨rfl, hwq⟩
          rw [hwq, hdx]
          clear hwq wq
          go_wp2_with fail
          repeat' (first | (refine hZ _ _ ?_; clear hZ) | (refine hZ _ ?_; clear hZ) | (refine hZ ?_; clear hZ) | rw [again_nil] | rw [walk_fin] | ((first | rw [walk_take] | rw [walk_run] | rw [again_cons]); intro Z hZ; simp only [sel, List.getElem?_toArray, List.getElem?_cons_zero, List.getElem?_cons_succ]; go_wp2_with (fail)))
          refine (isnan_any _ _ HYO.out.f1).mono ?_
          rintro e wq ⟨rfl, hwq⟩
          rw [hwq, hdy]
          clear hwq wq
          go_wp2_with fail
          repeat' (first | (refine hZ _ _ ?_; clear hZ) | (refine hZ _ ?_; clear hZ) | (refine hZ ?_; clear hZ) | rw [again_nil] | rw [walk_fin] | ((first | rw [walk_take] | rw [walk_run] | rw [again_cons]); intro Z hZ; simp only [sel, List.getElem?_toArray, List.getElem?_cons_zero, List.getElem?_cons_succ]; go_wp2_with (fail)))
          go_wp2_with fail
          refine (HCF.out _).mono ?_
          rintro e wq ⟨rfl, rfl⟩
          go_wp2_with fail
          go_ret
          exact ⟨by rw [HX.out, HY.out, HV.out]; rfl, HB6.out.drewR⟩
    by_cases k3 : y.k = 3
    · have HVL := Lib.hid (Key.vless_text HKK.out (by rw [HKK.out]; exact k3))
      have HVG := Lib.hid (Key.vless_text HKK.out.symm k3)
      have k3' : x.k = 3 := HKK.out.trans k3
      rw [k3'] at c0
      clear k2 k3 k3'
      have HV : Hid (Key.vord x y = Lib.compareBytes x.s y.s) := by
        show _ = _
        rw [Ev.cmpB]
        unfold Key.vord
        simp only [HVL.out, HVG.out]
      go_wp2_with fail
      refine (cmpstr_any _ x.s y.s).mono ?_
      rintro e wq ⟨rfl, rfl⟩
      go_wp2_with fail
      go_ret
      exact ⟨by rw [HX.out, HY.out, HV.out]; rfl, HB6.out⟩
    · have HV : Hid (Key.vord x y = Ev.cmpI x.n y.n) := by
        show _ = _
        unfold Key.vord Ev.cmpI
        simp only [Key.vless_num HKK.out (by rw [HKK.out]; exact k2) (by rw [HKK.out]; exact k3), Key.vless_num HKK.out.symm k2 k3]
      have k2' : (x.k == 2) = false := by rw [HKK.out]; simp [k2]
      have k3' : (x.k == 3) = false := by rw [HKK.out]; simp [k3]
      clear k2 k3
      go_wp2_with fail
      refine (cmpint64_any _ x.n y.n).mono ?_
      rintro e wq ⟨rfl, rfl⟩
      go_wp2_with fail
      go_ret
      exact ⟨by rw [HX.out, HY.out, HV.out]; rfl, HB6.out⟩
  · have HV : Hid (Key.vord x y = Ev.cmpI x.k y.k) := by
      show _ = _
      unfold Key.vord Ev.cmpI
      simp only [Key.vless_kind hk, Key.vless_kind (Ne.symm hk)]
    have hkb : (x.k != y.k) = true := by simp [hk]
    clear hk
    go_wp2_with fail
    refine (cmpint_any _ x.k y.k).mono ?_
    rintro e wq ⟨rfl, rfl⟩
    go_wp2_with fail
    go_ret
    exact ⟨by rw [HX.out, HY.out, HV.out]; rfl, HB6.out⟩
end Go.Proofs.YtjdffhonljhpcaaGreat
end

section
/-
  Values that are alike by their order are one (printed from TurnM, EvalNodes, AnsW, SortIns for seats that lack those).
-/
namespace Go.Proofs.YtjdffhonljhpcaaGreat
set_option linter.unusedSimpArgs false
set_option linter.unusedVariables false
open Go.RowKit
section
variable {α : Type} {E : Elem α} {w : World} {B c g : Nat} {L : List α}
theorem EOwn.toBlk (h : EOwn E w B (some ⟨g, 0, none⟩) c L) : ∃ sp, Blk w g E.e (E.cells L ++ sp) ∧ (E.cells L ++ sp).length = c * E.sz ∧ B ≤ g ∧ L.length ≤ c ∧ c ≤ maxLen := by
  obtain ⟨hl, h | ⟨g', cap, cur, hv, hB, hg, h1, h2, h3, h4⟩⟩ := h
  · exact absurd h.1 (by simp)
  · obtain ⟨rfl, rfl⟩ : g = g' ∧ c = cap := by simpa using hv
    refine ⟨cur.toList.drop (L.length * E.sz), ?_, ?_, hB, h1, h2⟩
    · rw [← h4, List.take_append_drop]
      show _ = some _
      rw [hg]
    · rw [← h4, List.take_append_drop]
      simpa using h3
theorem EOwn.ofBlk {sp : List Value} (hb : Blk w g E.e (E.cells L ++ sp)) (hl : (E.cells L ++ sp).length = c * E.sz) (h1 : L.length ≤ c) (h2 : c ≤ maxLen) (hB : B ≤ g) : EOwn E w B (some ⟨g, 0, none⟩) c L := by
  refine ⟨E.cells_length L, .inr ⟨g, c, (E.cells L ++ sp).toArray, rfl, hB, hb, h1, h2, by simpa using hl, ?_⟩⟩
  show (E.cells L ++ sp).take _ = _
  rw [← E.cells_length L, List.take_left]
end
theorem grown_refl (w : World) (r : Option Nat) : w.grownBy w r := ⟨rfl, rfl, rfl, Nat.le_refl _, fun _ _ _ => rfl⟩
theorem grown_trans {w W W' : World} {r : Option Nat} (h : w.grownBy W r) (k : W.grownBy W' r) : w.grownBy W' r :=
  ⟨k.os.trans h.os, k.tape.trans h.tape, k.output.trans h.output, Nat.le_trans h.size k.size, fun b hb hne => (k.block b (Nat.lt_of_lt_of_le hb h.size) hne).trans (h.block b hb hne)⟩
theorem grown_drew {w W : World} {r : Option Nat} (h : w.grownBy W r) : w.grownBy W.drew r := ⟨h.os, h.tape, h.output, h.size, h.block⟩
theorem grown_belowR {w W W' : World} {row : Option Nat} (h : w.grownBy W row) (hb : Below W.heap.size W W') : w.grownBy W' row :=
  ⟨hb.os.trans h.os, hb.tape.trans h.tape, hb.output.trans h.output, Nat.le_trans h.size hb.size, fun k hk hne => (hb.block k (Nat.lt_of_lt_of_le hk h.size)).trans (h.block k hk hne)⟩
theorem grown_set {w W : World} {g : Nat} (h : w.grownBy W (some g)) (i : Nat) (u : Value) : w.grownBy (W.setCell ⟨g, i, none⟩ u) (some g) :=
  ⟨h.os, h.tape, h.output, by simpa using h.size, fun b hb hne => (heap_setCell_other W ⟨g, i, none⟩ b u (fun e => hne (by simpa using e))).trans (h.block b hb hne)⟩
namespace Key
theorem vord_eqW {x y : Va} (hx : x.ok) (hy : y.ok) (cx : Clean x) (cy : Clean y) (hk : x.k = y.k) : vord x y = 0 ↔ (x.k = y.k ∧ x.n = y.n ∧ x.s = y.s ∧ (fnan x.f ↔ fnan y.f) ∧ (fnan x.f ∨ x.f = y.f)) := by
  have hv : vord x y = 0 ↔ ¬ vless x y ∧ ¬ vless y x := by
    unfold vord
    by_cases h1 : vless x y
    · rw [if_pos h1]; simp [h1]
    · rw [if_neg h1]
      by_cases h2 : vless y x
      · rw [if_pos h2]; simp [h2]
      · rw [if_neg h2]; simp [h1, h2]
  rw [hv]
  have hn : x.k ≠ 1 → x.k ≠ 4 → x.n = y.n := fun h1 h2 => by rw [cx.nn h1 h2, cy.nn (by omega) (by omega)]
  have hf : x.k ≠ 2 → x.f = y.f := fun h1 => by rw [cx.ff h1, cy.ff (by omega)]
  have hs : x.k ≠ 3 → x.s = y.s := fun h1 => by rw [cx.ss h1, cy.ss (by omega)]
  by_cases k2 : x.k = 2
  · rw [vless_real hk k2, vless_real hk.symm (by omega)]
    constructor
    · rintro ⟨h1, h2⟩
      refine ⟨hk, hn (by omega) (by omega), hs (by omega), ?_⟩
      by_cases nx : fnan x.f <;> by_cases ny : fnan y.f
      · exact ⟨⟨fun _ => ny, fun _ => nx⟩, .inl nx⟩
      · exact absurd (.inl ⟨ny, nx⟩) h2
      · exact absurd (.inl ⟨nx, ny⟩) h1
      · refine ⟨⟨fun h => absurd h nx, fun h => absurd h ny⟩, .inr (fsg_inj hx.f1 hy.f1 cx.zz cy.zz ?_)⟩
        have a1 : ¬ fsg x.f < fsg y.f := fun h => h1 (.inr ⟨nx, ny, h⟩)
        have a2 : ¬ fsg y.f < fsg x.f := fun h => h2 (.inr ⟨ny, nx, h⟩)
        exact Int.le_antisymm (Int.not_lt.1 a2) (Int.not_lt.1 a1)
    · rintro ⟨-, -, -, h1, h2⟩
      constructor
      · rintro (⟨a, b⟩ | ⟨a, b, c⟩)
        · exact a (h1.2 b)
        · rcases h2 with h2 | h2
          · exact a h2
          · rw [h2] at c; omega
      · rintro (⟨a, b⟩ | ⟨a, b, c⟩)
        · exact a (h1.1 b)
        · rcases h2 with h2 | h2
          · exact b h2
          · rw [h2] at c; omega
  by_cases k3 : x.k = 3
  · rw [vless_text hk k3, vless_text hk.symm (by omega)]
    have hff := hf (by omega)
    constructor
    · rintro ⟨h1, h2⟩
      exact ⟨hk, hn (by omega) (by omega), less_total _ _ (by simpa using h1) (by simpa using h2), by rw [hff], .inr hff⟩
    · rintro ⟨-, -, h, -⟩
      rw [h, less_irrefl]; simp
  · rw [vless_num hk k2 k3, vless_num hk.symm (by omega) (by omega)]
    have hff := hf (by omega)
    constructor
    · rintro ⟨h1, h2⟩
      exact ⟨hk, by omega, hs k3, by rw [hff], .inr hff⟩
    · rintro ⟨-, h, -⟩
      omega
end Key
namespace Ev
open Key
theorem clean_is (v : Va) : Key.Clean (Key.clean v) := by
  unfold Key.clean Key.cleanF
  by_cases h1 : v.k = 1
  · rw [if_pos h1]; constructor <;> simp
  rw [if_neg h1]
  by_cases h2 : v.k = 2
  · rw [if_pos h2]; constructor <;> simp
    unfold Key.real1
    split
    · intro h; omega
    · split <;> omega
  rw [if_neg h2]
  by_cases h3 : v.k = 3
  · rw [if_pos h3]; constructor <;> simp
  rw [if_neg h3]
  by_cases h4 : v.k = 4
  · rw [if_pos h4]; constructor <;> simp
    exact Decidable.em _
  rw [if_neg h4]; constructor <;> simp [Key.nul]
theorem eq_of_vord {x y : Va} (hx : x.ok) (hy : y.ok) (cx : clean x = x) (cy : clean y = y) (h : vord x y = 0) : x = y := by
  have kx : Key.Clean x := by rw [← cx]; exact clean_is x
  have ky : Key.Clean y := by rw [← cy]; exact clean_is y
  have hv : ¬ vless x y ∧ ¬ vless y x := by
    unfold vord at h
    by_cases h1 : vless x y
    · rw [if_pos h1] at h; omega
    · rw [if_neg h1] at h
      by_cases h2 : vless y x
      · rw [if_pos h2] at h; omega
      · exact ⟨h1, h2⟩
  have hk : x.k = y.k := by
    have a : ¬ (x.k < y.k) := fun e => hv.1 (.inl e)
    have b : ¬ (y.k < x.k) := fun e => hv.2 (.inl e)
    omega
  obtain ⟨-, hn, hs, hf, hg⟩ := (vord_eqW hx hy kx ky hk).1 h
  have hff : x.f = y.f := by
    rcases hg with hg | hg
    · have hg2 := hf.1 hg
      have r : ∀ {z : Va}, clean z = z → fnan z.f → z.f = 9221120237041090561 := fun {z} cz hz => by
        by_cases k2 : z.k = 2
        · have e : clean z = ⟨2, 0, real1 z.f, []⟩ := by unfold clean cleanF; simp [k2]
          have e2 : z.f = real1 z.f := by
            have := congrArg Va.f e
            rw [cz] at this
            exact this
          rw [e2]
          unfold real1
          rw [if_pos hz]
        · exfalso
          have := (show Key.Clean z by rw [← cz]; exact clean_is z).ff k2
          rw [this] at hz
          revert hz
          decide
      rw [r cx hg, r cy hg2]
    · exact hg
  obtain ⟨a, b, c, d⟩ := x
  obtain ⟨a', b', c', d'⟩ := y
  simp only at hk hn hs hff
  subst hk hn hs hff
  rfl
end Ev
end Go.Proofs.YtjdffhonljhpcaaGreat
end

section
/-
  The kit's laying of slices.SortFunc at values, in plain words (printed by tools/laytext.py for the seat of round r15).
-/
namespace Go.Proofs.YtjdffhonljhpcaaGreat
set_option linter.unusedSimpArgs false
set_option linter.unusedVariables false
open Go.Shelf
end Go.Proofs.YtjdffhonljhpcaaGreat
end

section
/-
  The contract of slices.SortFunc at values, by the kit's own.
-/
namespace Go.Proofs.YtjdffhonljhpcaaGreat
set_option linter.unusedSimpArgs false
set_option linter.unusedVariables false
open Go.RowKit Go.Shelf Go.Sort

namespace Srt
theorem sorted_unique {α : Type} {cmp : α → α → Int} (ho : Ord cmp) : ∀ (X Y : List α), Sorted cmp X → Sorted cmp Y → X.Perm Y → (∀ x ∈ X, ∀ y ∈ X, cmp x y = 0 → x = y) → X = Y
  | [], Y, _, _, hp, _ => hp.symm.eq_nil.symm
  | x :: X, [], _, _, hp, _ => by cases hp.eq_nil
  | x :: X, y :: Y, hX, hY, hp, he => by
    obtain ⟨h1, h2⟩ := List.pairwise_cons.1 hX
    obtain ⟨k1, k2⟩ := List.pairwise_cons.1 hY
    have hy : y ∈ x :: X := hp.mem_iff.2 (by simp)
    have hx : x ∈ y :: Y := hp.mem_iff.1 (by simp)
    have e : x = y := by
      refine he x (by simp) y hy ?_
      have a : ¬ cmp y x < 0 := by
        rcases List.mem_cons.1 hy with e | hy
        · rw [e, ho.self]; omega
        · exact h1 y hy
      have b : ¬ cmp x y < 0 := by
        rcases List.mem_cons.1 hx with e | hx
        · rw [e, ho.self]; omega
        · exact k1 x hx
      have := ho.anti x y
      omega
    subst e
    rw [sorted_unique ho X Y h2 k2 ((List.perm_cons x).1 hp) (fun a ha b hb => he a (by simp [ha]) b (by simp [hb]))]
end Srt
/-- A value that may be. -/
structure OkV where
  v : Va
  ok : v.ok
instance : Inhabited OkV := ⟨⟨Key.nul, Ev.nul_ok⟩⟩
def OkV.cmp (x y : OkV) : Int := Key.vord (Key.clean x.1) (Key.clean y.1)
theorem okv_ord : Srt.Ord OkV.cmp := Key.vord_ord.on fun x : OkV => Key.clean x.1
theorem okv_swo : Go.Sort.SWO (ltOf OkV.cmp) where
  irrefl x := by unfold ltOf; rw [okv_ord.self]; rfl
  trans x y z h1 h2 := by
    unfold ltOf at *
    rw [decide_eq_true_iff] at *
    exact okv_ord.lt_trans h1 h2
  ntrans x y z h1 h2 := by
    unfold ltOf at *
    rw [decide_eq_false_iff_not] at *
    exact okv_ord.le_trans h2 h1

theorem grow_of_up {W w' : World} (h : Up W.heap.size W w') : ∃ q os', w' = Go.Sort.grow (W.drewN q) os' := by
  refine ⟨w'.drawn - W.drawn, w'.heap.extract W.heap.size w'.heap.size, ?_⟩
  have hs := h.b.size
  have hd := h.d
  have hh : w'.heap = W.heap ++ w'.heap.extract W.heap.size w'.heap.size := by
    apply Array.ext_getElem?
    intro k
    rw [Array.getElem?_append]
    split
    · next hk => exact h.b.block k hk
    · next hk =>
      rw [Array.getElem?_extract]
      by_cases hk2 : k < w'.heap.size
      · rw [if_pos (by omega)]
        congr 1
        omega
      · rw [if_neg (by omega), Array.getElem?_eq_none (by omega)]
  have h1 := h.b.os
  have h2 := h.b.tape
  have h3 := h.b.output
  have h4 : w'.drawn = W.drawn + (w'.drawn - W.drawn) := by omega
  generalize w'.heap.extract W.heap.size w'.heap.size = os' at hh
  generalize w'.drawn - W.drawn = q at h4
  obtain ⟨a, b, c, d, e⟩ := w'
  obtain ⟨a', b', c', d', e'⟩ := W
  simp only at h1 h2 h3 h4 hh
  subst h1 h2 h3 h4 hh
  rfl
def OkV.enc (x : OkV) : List Value := x.1.cells
theorem cmp_lays (blk off size : Nat) (w : World) : CmpLays Tryz.prog 102 #[] OkV.enc 4 OkV.cmp blk off size w := by
  intro m os dk _ x y
  refine (show Calls Tryz.prog 102 #[x.1.v, y.1.v] _ _ from pord_u _ x.1 y.1 x.2 y.2).mono ?_
  rintro e w' ⟨rfl, hu⟩
  exact ⟨rfl, grow_of_up hu⟩
theorem okv_flat (d : Array OkV) (k : Nat) (h : k < d.size * 4) : ∃ hk : k / 4 < d.size, (flatK OkV.enc 4 d)[k]! = (d[k / 4].1.cells)[k % 4]! := by
  have hk : k / 4 < d.size := by omega
  refine ⟨hk, ?_⟩
  rw [get_flatK OkV.enc 4 d k h]
  unfold OkV.enc
  rw [getElem!_pos d (k / 4) hk]
theorem va_cells_get (L : List Va) {k : Nat} (h : k < L.length * 4) : (eVa.cells L)[k]? = (L[k / 4]'(by omega)).cells[k % 4]? := by
  have := eVa.cells_get L (k / 4) (k % 4) (by omega) (by show k % 4 < 4; omega)
  rw [show k / 4 * eVa.sz + k % 4 = k by show k / 4 * 4 + k % 4 = k; omega] at this
  exact this
theorem va_four (v : Va) {j : Nat} (h : j < 4) : v.cells[j]? = some v.cells[j]! := by
  have hl : v.cells.length = 4 := rfl
  rw [getElem!_pos v.cells j (by omega), List.getElem?_eq_getElem (by omega)]
end Go.Proofs.YtjdffhonljhpcaaGreat
end

section
/-
  The contracts of stats.clean and stats.Share.
-/
namespace Go.Proofs.YtjdffhonljhpcaaGreat
set_option linter.unusedSimpArgs false
set_option linter.unusedVariables false
open Go.RowKit

namespace Ev
def rowsN (r : Int) : Int := near r 1099511627776
def clnC (r : Int) (c : Cs) : Cs := ⟨near c.d (rowsN r), near c.n (rowsN r), c.a, c.b, c.c⟩
def sameN (b d : Int) : Int := if 0 < d then max 1 (b / d) else 0
theorem sameN_le {b d : Int} (h0 : 0 ≤ b) (h1 : b ≤ 1000) : 0 ≤ sameN b d ∧ sameN b d ≤ 1000 := by
  unfold sameN
  split
  · next h =>
    have h2 : b / d ≤ 1000 := Int.ediv_le_of_le_mul h (by have : 1000 * 1 ≤ 1000 * d := Int.mul_le_mul_of_nonneg_left (by omega) (by omega); omega)
    omega
  · omega
/-- How many of a thousand rows are guessed, of clean r, c and v. -/
def share (r : Int) (c : Cs) (op : List UInt8) (v : Va) : Int :=
  if r = 0 ∨ v.k = 0 then 0 else
  if op = [61] then sameN (1000 * (r - c.n) / r) c.d else
  if op = [60, 62] then max 0 (1000 * (r - c.n) / r - sameN (1000 * (r - c.n) / r) c.d) else
  if op = [60] then belowN (1000 * (r - c.n) / r) v c.b (fun b => decide (b < v.n)) else
  if op = [60, 61] then belowN (1000 * (r - c.n) / r) v c.b (fun b => decide (b ≤ v.n)) else
  if op = [62] then belowN (1000 * (r - c.n) / r) v c.b (fun b => decide (v.n < b)) else
  if op = [62, 61] then belowN (1000 * (r - c.n) / r) v c.b (fun b => decide (v.n ≤ b)) else (1000 * (r - c.n) / r) / 3
def shareN (r : Int) (c : Cs) (op : List UInt8) (v : Va) : Int := share (rowsN r) (clnC r c) op (Key.clean v)
theorem near_mm (n m : Int) : max 0 (min n m) = near n m := by unfold near; (repeat' split) <;> omega
theorem rowsN_le (r : Int) : 0 ≤ rowsN r ∧ rowsN r ≤ 1099511627776 := near_le (by omega)
end Ev
theorem ret_mem2r {P : Program} {fn : Func} {R : Ending → World → Prop} {a : Act} {w : World} {p u : Tmp} {T : TypeId} {x : Addr} {v y : Value} (h : fn.results = #[.tmp u, .cell p T]) (hd : a.defers = [])
    (hp : a.tmps.getD p undef = .pointer (some x)) (hu : a.tmps.getD u undef = y) (hv : (loadVar T x).run P w = .ok v w) (hR : R (.returned (.tuple #[y, v])) w) : bodyPost P fn R .ret a w := by
  refine bodyPost_ret (v := .tuple #[y, v]) ?_ hd hR
  have e : (results fn a.tmps).run P w = ((asAddr (a.tmps.getD p undef)).run P w).andThen fun b w1 => ((loadVar T b).run P w1).andThen fun v w2 => .ok (.tuple #[a.tmps.getD u undef, v]) w2 := by
    simp only [results, h]
    simp [Sem.run_bind, Result.andThen]
  rw [e, hp, hu]
  show (((loadVar T x).run P w).andThen _) = _
  rw [hv]
  rfl
set_option maxRecDepth 20000 in
set_option maxHeartbeats 4000000 in
theorem stclean_any (w : World) (r : Int) (c : Cs) : Calls Tryz.prog 67 #[.int .i64 r, c.v] w fun e w' => e = .returned (.tuple #[.int .i64 (Ev.rowsN r), (Ev.clnC r c).v]) ∧ Below w.heap.size w w' := by
  go_enter Tryz.func67, Tryz.ntmps67
  go_upto_region 1 with (first | (refine wpList_box_cs rfl (.tmp 1) rfl c rfl ?_; intro W1 hb1 hz1 hB1) | (refine wpList_alloc_cs rfl rfl ?_; intro W2 hb2 hz2 hB2))
  have h12 := hb1.below hB2
  have HB2 := Lib.hid (hB1.then hB2)
  have h13 : w.heap.size < W1.heap.size := by omega
  clear hb1 hB1 hB2 hz1
  generalize hg5 : W1.heap.size = g5 at hb2 h13 ⊢
  have hgw : w.heap.size ≤ g5 := by omega
  generalize hg3 : w.heap.size = g3 at h12 h13 ⊢
  have HG := Lib.hid (And.intro hg3 hg5)
  clear hg3 hg5 hz2
  obtain ⟨c0, c1, c2, f0, f1, f2, -⟩ := Blk.c3 h12
  go_upto_region 2 with fail
  obtain ⟨R, hR⟩ : ∃ R, Ev.rowsN r = R := ⟨_, rfl⟩
  have hR' : max 0 (min r 1099511627776) = R := (Ev.near_mm r 1099511627776).trans hR
  rw [hR']
  have HR := Lib.hid hR
  clear hR hR'
  go_upto_region 3 with fail
  obtain ⟨N, hN⟩ : ∃ N, Ev.near c.n R = N := ⟨_, rfl⟩
  have hN' : max 0 (min c.n R) = N := (Ev.near_mm c.n R).trans hN
  rw [hN']
  have HN := Lib.hid hN
  have h15 : Blk (W2.setCell ⟨g3, 1, none⟩ (.int .i64 N)) g3 51 (Cs.cells { c with n := N }) := h12.set 1 _
  have hb5 : Blk (W2.setCell ⟨g3, 1, none⟩ (.int .i64 N)) g5 51 Cs.nul.cells := hb2.other ⟨g3, 1, none⟩ (by show g5 ≠ g3; omega) _
  have HB5 : Hid (Below w.heap.size w (W2.setCell ⟨g3, 1, none⟩ (.int .i64 N))) := HB2.out.setCell (by show w.heap.size ≤ g3; have := HG.out.1; omega) _
  clear hN hN' h12 hb2 c0 c1 c2 f0 f1 f2
  generalize W2.setCell ⟨g3, 1, none⟩ (.int .i64 N) = W5 at h15 hb5 HB5 ⊢
  obtain ⟨c0, c1, c2, f0, f1, f2, -⟩ := Blk.c3 h15
  go_upto_region 4 with fail
  obtain ⟨D, hD⟩ : ∃ D, Ev.near c.d R = D := ⟨_, rfl⟩
  have hD' : max 0 (min c.d R) = D := (Ev.near_mm c.d R).trans hD
  rw [hD']
  have HD := Lib.hid hD
  have h16 : Blk (W5.setCell ⟨g3, 0, none⟩ (.int .i64 D)) g3 51 (Cs.cells ⟨D, N, c.a, c.b, c.c⟩) := h15.set 0 _
  have hb6 : Blk (W5.setCell ⟨g3, 0, none⟩ (.int .i64 D)) g5 51 Cs.nul.cells := hb5.other ⟨g3, 0, none⟩ (by show g5 ≠ g3; omega) _
  have HB6 : Hid (Below w.heap.size w (W5.setCell ⟨g3, 0, none⟩ (.int .i64 D)).drew) := (HB5.out.setCell (by show w.heap.size ≤ g3; have := HG.out.1; omega) _).drewR
  clear hD hD' h15 hb5 c0 c1 c2 f0 f1 f2
  generalize W5.setCell ⟨g3, 0, none⟩ (.int .i64 D) = W6 at h16 hb6 HB6 ⊢
  have h16d := h16.drew
  have hb6d := hb6.drew
  refine wp_region_plan (.take 0 (.take 1 (.take 2 (.run 3 [] .fin)))) (by kernel_rfl) (by kernel_rfl) (by kernel_rfl) (by kernel_rfl) ?_
  repeat' (first | (refine hZ _ _ ?_; clear hZ) | (refine hZ _ ?_; clear hZ) | (refine hZ ?_; clear hZ) | rw [again_nil] | rw [walk_fin] | ((first | rw [walk_take] | rw [walk_run] | rw [again_cons]); intro Z hZ; simp only [sel, List.getElem?_toArray, List.getElem?_cons_zero, List.getElem?_cons_succ]; go_wp2_with (first | (refine wpList_load_cs rfl (.tmp 3) rfl g3 rfl h16d ?_) | (refine wpList_store_cs rfl rfl (.tmp 5) (.tmp 22) rfl g5 rfl ⟨D, N, c.a, c.b, c.c⟩ rfl hb6d ?_; intro W7 hb7 hg7))))
  all_goals
    go_wp2_with fail
    refine ret_mem2r rfl rfl rfl rfl hb7.cs ⟨?_, below_of_grown HB6.out hg7 (by have := HG.out.1; omega) HB6.out.size⟩
    unfold Ev.clnC
    rw [HR.out, HN.out, HD.out]
    rfl
set_option maxRecDepth 100000 in
set_option maxHeartbeats 8000000 in
theorem share_any (w : World) (r : Int) (c : Cs) (op : List UInt8) (v : Va) (hv : v.ok) (hr : ERow eI64 w c.a c.b) (hl : c.b.length ≤ 1000) :
    Calls Tryz.prog 69 #[.int .i64 r, c.v, txt op, v.v] w fun e w' => e = .returned (.int .i64 (Ev.shareN r c op v)) ∧ Below w.heap.size w w' := by
  have HV := Lib.hid hv
  have HRW := Lib.hid hr
  clear hv hr
  have hmf : ∀ (fn : Fn) (first cap : Array Value) (w : World), (Instr.makeFunc fn first cap).run Tryz.prog w = .ok (.func fn first cap) w := fun _ _ _ _ => rfl
  obtain ⟨D, hDD⟩ : ∃ D, Ev.shareN r c op v = D := ⟨_, rfl⟩
  rw [hDD]
  have HDD : Hid (Ev.share (Ev.rowsN r) (Ev.clnC r c) op (Key.clean v) = D) := hDD
  clear hDD
  go_enter Tryz.func69, Tryz.ntmps69
  go_upto_region 1 with (first | (refine wpList_box_cs rfl (.tmp 1) rfl c rfl ?_; intro W1 hb1 hz1 hB1) | (refine wpList_box_va rfl (.tmp 3) rfl v rfl ?_; intro W2 hb2 hz2 hB2))
  have h12 := hb1.below hB2
  have HB2 := Lib.hid (hB1.then hB2)
  have h57 : w.heap.size < W1.heap.size := by omega
  clear hb1 hB1 hB2 hz1
  obtain ⟨g7, hg7⟩ : ∃ g, W1.heap.size = g := ⟨_, rfl⟩
  obtain ⟨g5, hg5⟩ : ∃ g, w.heap.size = g := ⟨_, rfl⟩
  rw [hg7] at hb2 h57
  rw [hg5] at h12 h57
  rw [hg7, hg5]
  have HG5 := Lib.hid hg5
  clear hg7 hg5 hz2
  go_wp2_with (refine wpList_load_cs rfl (.tmp 5) rfl g5 rfl h12 ?_)
  refine (stclean_any W2 r c).mono ?_
  rintro e W3 ⟨rfl, hB3⟩
  have h13 := h12.below hB3
  have hb3 := hb2.below hB3
  have HB3 := Lib.hid (HB2.out.then hB3)
  clear hB3 h12 hb2
  have hR := Ev.rowsN_le r
  have hN := Ev.near_le (n := c.n) hR.1
  have hD := Ev.near_le (n := c.d) hR.1
  have hcb : (Ev.clnC r c).b = c.b ∧ (Ev.clnC r c).a = c.a := ⟨rfl, rfl⟩
  have hcd : 0 ≤ (Ev.clnC r c).d ∧ (Ev.clnC r c).d ≤ Ev.rowsN r := hD
  have hcn : 0 ≤ (Ev.clnC r c).n ∧ (Ev.clnC r c).n ≤ Ev.rowsN r := hN
  have HCL : Hid ((Ev.clnC r c).b.length ≤ 1000) := hl
  have HRC : Hid (ERow eI64 w (Ev.clnC r c).a (Ev.clnC r c).b) := HRW.out
  generalize Ev.clnC r c = c' at hcb hcd hcn HCL HRC HDD ⊢
  generalize Ev.rowsN r = R at hR hcd hcn HDD ⊢
  clear hN hD hcb
  go_upto_region 2 with (refine wpList_store_cs rfl rfl (.tmp 5) (.tmp 17) rfl g5 rfl c' rfl h13 ?_; intro W4 hb4 hg4)
  have h74 := hb3.grown hg4 (by simp; omega)
  have HB4 : Hid (Below w.heap.size w W4) := below_of_grown HB3.out hg4 (by have := HG5.out; omega) HB3.out.size
  clear h13 hb3 hg4
  go_wp2_with (refine wpList_load_va rfl (.tmp 7) rfl g7 rfl h74 ?_)
  refine (clean_any W4 v HV.out).mono ?_
  rintro e W5 ⟨rfl, hB5⟩
  have hb5 := hb4.below hB5
  have h75 := h74.below hB5
  have HB5 := Lib.hid (HB4.out.then hB5)
  clear hB5 hb4 h74
  generalize Key.clean v = u at HDD ⊢
  go_upto_region 3 with (refine wpList_store_va rfl rfl (.tmp 7) (.tmp 19) rfl g7 rfl u rfl h75 ?_; intro W6 hb7 hg7)
  have hb56 := hb5.grown hg7 (by simp; omega)
  have HB6 : Hid (Below w.heap.size w W6) := below_of_grown HB5.out hg7 (by have := HG5.out; omega) HB5.out.size
  clear hb5 h75 hg7
  obtain ⟨c0, -⟩ := Blk.c4 hb7
  by_cases hz : R = 0
  · have HF : Hid (D = 0) := by show _ = _; rw [← HDD.out]; unfold Ev.share; rw [if_pos (.inl hz)]
    have hzb : (R == 0) = true := by simp [hz]
    clear hz
    go_wp2_with fail
    go_ret
    exact ⟨by rw [HF.out]; rfl, HB6.out⟩
  have hzb : (R == 0) = false := by simpa using hz
  by_cases hk : u.k = 0
  · have HF : Hid (D = 0) := by show _ = _; rw [← HDD.out]; unfold Ev.share; rw [if_pos (.inr hk)]
    rw [hk] at c0
    clear hz hk
    go_wp2_with fail
    go_ret
    exact ⟨by rw [HF.out]; rfl, HB6.out⟩
  have hkb : (u.k == 0) = false := by simpa using hk
  have HNZ : Hid (¬ (R = 0 ∨ u.k = 0)) := by rintro (h | h); exact hz h; exact hk h
  obtain ⟨e0, e1, -⟩ := Blk.c3 hb56
  have hRp : 0 < R := by omega
  clear hz hk
  go_upto_region 6 with fail
  generalize hW9 : World.alloc W6 (.cells _ _) = W7
  obtain ⟨ba9, hz9, hB9⟩ := fresh1 hW9
  clear hW9
  have hb57 := hb56.below hB9
  have hb77 := hb7.below hB9
  have HB7 := Lib.hid (HB6.out.then hB9)
  have HRR : Hid (ERow eI64 W7 c'.a c'.b) := HRC.out.below HB7.out
  obtain ⟨b, hbd⟩ : ∃ b, 1000 * (R - c'.n) / R = b := ⟨_, rfl⟩
  have hb0 : 0 ≤ b := by rw [← hbd]; exact Int.ediv_nonneg (by omega) (by omega)
  have hb1 : b ≤ 1000 := by rw [← hbd]; exact Int.ediv_le_of_le_mul hRp (by omega)
  rw [hbd] at ba9
  rw [hbd]
  have HBD := Lib.hid hbd
  clear hb56 hb7 hB9 hz9 hbd c0 e0 e1 hkb hzb
  obtain ⟨g9, hg9⟩ : ∃ g, W6.heap.size = g := ⟨_, rfl⟩
  rw [hg9] at ba9
  rw [hg9]
  clear hg9
  obtain ⟨e0, -⟩ := Blk.c3 hb57
  have f0 := ba9.cell 0
  simp only [List.getElem?_cons_zero] at f0
  go_upto_if 36 with fail
  go_cut [10] from 36 to 41 (fun v wx => Hid (v = .int .i64 (Ev.sameN b c'.d) ∧ wx = W7))
  case first =>
    by_cases hd : 0 < c'.d
    · have HS : Hid (Ev.sameN b c'.d = max 1 (b / c'.d)) := by show _ = _; unfold Ev.sameN; rw [if_pos hd]
      go_wp2_with fail
      go_meet
      case rel => exact ⟨by rw [HS.out], rfl⟩
    · have HS : Hid (Ev.sameN b c'.d = 0) := by show _ = _; unfold Ev.sameN; rw [if_neg hd]
      go_wp2_with fail
      go_meet
      case rel => exact ⟨by rw [HS.out], rfl⟩
  case rest =>
    obtain ⟨hv, rfl⟩ := hcut.out
    subst hv
    clear hcut e0 f0
    have hgs := guard_str_is
    have HDV : Hid (D = if op = [61] then Ev.sameN b c'.d else if op = [60, 62] then max 0 (b - Ev.sameN b c'.d) else if op = [60] then Ev.belowN b u c'.b (fun b => decide (b < u.n)) else if op = [60, 61] then Ev.belowN b u c'.b (fun b => decide (b ≤ u.n)) else if op = [62] then Ev.belowN b u c'.b (fun b => decide (u.n < b)) else if op = [62, 61] then Ev.belowN b u c'.b (fun b => decide (u.n ≤ b)) else b / 3) := by
      show _ = _
      rw [← HDD.out]
      unfold Ev.share
      rw [if_neg HNZ.out, HBD.out]
    have HSB := Ev.sameN_le hb0 hb1 (d := c'.d)
    have f0 := ba9.cell 0
    simp only [List.getElem?_cons_zero] at f0
    go_upto_region 11 with fail
    by_cases hop : op = [61]
    · have HF : Hid (D = Ev.sameN b c'.d) := by show _ = _; rw [HDV.out, if_pos hop]
      subst hop
      unfold txt
      go_wp2_with fail
      go_ret
      exact ⟨by rw [HF.out]; rfl, HB7.out⟩
    have n1 := run_str_is op [61] hop
    by_cases hop2 : op = [60, 62]
    · have HF : Hid (D = max 0 (b - Ev.sameN b c'.d)) := by show _ = _; rw [HDV.out, if_neg hop, if_pos hop2]
      subst hop2
      clear n1
      unfold txt
      generalize Ev.sameN b c'.d = s at HSB HF ⊢
      go_wp2_with fail
      go_ret
      exact ⟨by rw [HF.out]; rfl, HB7.out⟩
    have n2 := run_str_is op [60, 62] hop2
    by_cases hop3 : op = [60]
    · have HDX : Hid (Ev.belowN b u c'.b (fun b => decide (b < u.n)) = D) := by show _ = _; rw [HDV.out, if_neg hop, if_neg hop2, if_pos hop3]
      subst hop3
      clear n1 n2
      have HCB := Lib.hid (below2_any wc g7 g5 g9 _ _ _ u c' b hb77 hb57 ba9 HRR.out HCL.out hb0 hb1)
      have HF : Hid (D = Ev.belowN b u c'.b (fun b => decide (b < u.n))) := HDX.out.symm
      clear hb77 hb57 ba9
      unfold txt
      go_wp2_with fail
      refine (show Calls _ _ _ _ _ from HCB.out).mono ?_
      rintro e w5 ⟨rfl, rfl⟩
      go_wp2_with fail
      go_ret
      exact ⟨by rw [HF.out]; rfl, HB7.out⟩
    have n3 := run_str_is op [60] hop3
    by_cases hop4 : op = [60, 61]
    · have HDX : Hid (Ev.belowN b u c'.b (fun b => decide (b ≤ u.n)) = D) := by show _ = _; rw [HDV.out, if_neg hop, if_neg hop2, if_neg hop3, if_pos hop4]
      subst hop4
      clear n1 n2 n3
      have HCB := Lib.hid (below3_any wc g7 g5 g9 _ _ _ u c' b hb77 hb57 ba9 HRR.out HCL.out hb0 hb1)
      have HF : Hid (D = Ev.belowN b u c'.b (fun b => decide (b ≤ u.n))) := HDX.out.symm
      clear hb77 hb57 ba9
      unfold txt
      go_wp2_with fail
      refine (show Calls _ _ _ _ _ from HCB.out).mono ?_
      rintro e w5 ⟨rfl, rfl⟩
      go_wp2_with fail
      go_ret
      exact ⟨by rw [HF.out]; rfl, HB7.out⟩
    have n4 := run_str_is op [60, 61] hop4
    by_cases hop5 : op = [62]
    · have HDX : Hid (Ev.belowN b u c'.b (fun b => decide (u.n < b)) = D) := by show _ = _; rw [HDV.out, if_neg hop, if_neg hop2, if_neg hop3, if_neg hop4, if_pos hop5]
      subst hop5
      clear n1 n2 n3 n4
      have HCB := Lib.hid (below4_any wc g7 g5 g9 _ _ _ u c' b hb77 hb57 ba9 HRR.out HCL.out hb0 hb1)
      have HF : Hid (D = Ev.belowN b u c'.b (fun b => decide (u.n < b))) := HDX.out.symm
      clear hb77 hb57 ba9
      unfold txt
      go_wp2_with fail
      refine (show Calls _ _ _ _ _ from HCB.out).mono ?_
      rintro e w5 ⟨rfl, rfl⟩
      go_wp2_with fail
      go_ret
      exact ⟨by rw [HF.out]; rfl, HB7.out⟩
    have n5 := run_str_is op [62] hop5
    by_cases hop6 : op = [62, 61]
    · have HDX : Hid (Ev.belowN b u c'.b (fun b => decide (u.n ≤ b)) = D) := by show _ = _; rw [HDV.out, if_neg hop, if_neg hop2, if_neg hop3, if_neg hop4, if_neg hop5, if_pos hop6]
      subst hop6
      clear n1 n2 n3 n4 n5
      have HCB := Lib.hid (below5_any wc g7 g5 g9 _ _ _ u c' b hb77 hb57 ba9 HRR.out HCL.out hb0 hb1)
      have HF : Hid (D = Ev.belowN b u c'.b (fun b => decide (u.n ≤ b))) := HDX.out.symm
      clear hb77 hb57 ba9
      unfold txt
      go_wp2_with fail
      refine (show Calls _ _ _ _ _ from HCB.out).mono ?_
      rintro e w5 ⟨rfl, rfl⟩
      go_wp2_with fail
      go_ret
      exact ⟨by rw [HF.out]; rfl, HB7.out⟩
    have n6 := run_str_is op [62, 61] hop6
    have HF : Hid (D = b / 3) := by show _ = _; rw [HDV.out, if_neg hop, if_neg hop2, if_neg hop3, if_neg hop4, if_neg hop5, if_neg hop6]
    clear hop hop2 hop3 hop4 hop5 hop6
    go_wp2_with fail
    go_ret
    exact ⟨by rw [HF.out]; rfl, HB7.out⟩
end Go.Proofs.YtjdffhonljhpcaaGreat
end

section
/-
  A row that grows, of elements whose own rows lie each in a block of its own.
-/
namespace Go.Proofs.YtjdffhonljhpcaaGreat
set_option linter.unusedSimpArgs false
set_option linter.unusedVariables false
open Go.RowKit

/-- Elements of the call's own, in a row of the call's own; the row of each lies elsewhere. -/
structure NLoop {ρ β : Type} (E : Elem ρ) (F : Elem β) (pa : ρ → Option Addr) (pl : ρ → List β) (pc : ρ → Nat) (B : Nat) (W : World) (A : Option Addr) (c : Nat) (R : List ρ) : Prop where
  own : EOwn E W B A c R
  rows : ∀ r ∈ R, ERow F W (pa r) (pl r)
  cap : ∀ r ∈ R, (pl r).length ≤ pc r ∧ pc r ≤ maxLen
  ne : ∀ r ∈ R, pl r ≠ [] → ∀ a, pa r = some a → ∀ x, A = some x → a.block ≠ x.block
  lo : ∀ r ∈ R, ∀ a, pa r = some a → B ≤ a.block
  size : B ≤ W.heap.size
variable {ρ β : Type} {E : Elem ρ} {F : Elem β} {pa : ρ → Option Addr} {pl : ρ → List β} {pc : ρ → Nat} {B c : Nat} {W W' : World} {A : Option Addr} {R : List ρ}
theorem erow_ltE {w : World} {A : Option Addr} {L : List β} (h : ERow F w A L) (hl : L ≠ []) : ∀ a, A = some a → a.block < w.heap.size := by
  intro a ha
  obtain ⟨b, o, e, hb, -⟩ := h (List.length_pos_iff.2 hl)
  rw [ha] at e
  cases e
  exact hb
theorem NLoop.start (hB : B ≤ W.heap.size) : NLoop E F pa pl pc B W none 0 ([] : List ρ) :=
  ⟨EOwn.nil _ _, (by intro r hr; cases hr), (by intro r hr; cases hr), (by intro r hr; cases hr), (by intro r hr; cases hr), hB⟩
theorem NLoop.below (h : NLoop E F pa pl pc B W A c R) (hB : Below W.heap.size W W') : NLoop E F pa pl pc B W' A c R :=
  ⟨h.own.below hB, fun r hr => (h.rows r hr).below hB, h.cap, h.ne, h.lo, Nat.le_trans h.size hB.size⟩
/-- Behind an element whose row came since. -/
theorem NLoop.one (h : NLoop E F pa pl pc B W A c R) {w1 w2 w3 : World} (hB1 : Below W.heap.size W w1) {r : ρ} (hr : EOwn F w1 W.heap.size (pa r) (pc r) (pl r)) (hB2 : Below w1.heap.size w1 w2) {A3 : Option Addr} {c3 : Nat}
    (ho3 : EOwn E w3 B A3 c3 (R ++ [r])) (hg3 : w2.grownBy w3 (A.map (·.block))) (ha3 : A3.map (·.block) = A.map (·.block) ∨ A3.map (·.block) = some w2.heap.size) :
    NLoop E F pa pl pc B w3 A3 c3 (R ++ [r]) := by
  have hz1 := hB1.size
  have hz2 := hB2.size
  have hAb : ∀ a, A = some a → a.block < W.heap.size := fun a ha => (h.own.block a ha).2
  have keep : ∀ (P : Option Addr) (l : List β), ERow F w2 P l → (l ≠ [] → ∀ a, P = some a → ∀ y, A = some y → a.block ≠ y.block) → ERow F w3 P l := fun P l hr hn hl => by
    refine hr.keep hg3.size (fun a ha hlt => hg3.block _ hlt ?_) hl
    intro e
    cases hA : A with
    | none => rw [hA] at e; simp at e
    | some y => rw [hA] at e; exact hn (List.length_pos_iff.1 hl) a ha y hA (by simpa using e)
  refine ⟨ho3, ?_, ?_, ?_, ?_, by have := h.size; have := hg3.size; omega⟩
  · intro s hs
    rcases List.mem_append.1 hs with hs | hs
    · exact keep _ _ ((h.rows s hs).below (hB1.trans (hB2.mono hz1))) (h.ne s hs)
    · rw [List.mem_singleton.1 hs]
      refine keep _ _ (hr.row.below hB2) fun _ a ha y hy => ?_
      have := hAb y hy
      have := (hr.block a ha).1
      omega
  · intro s hs
    rcases List.mem_append.1 hs with hs | hs
    · exact h.cap s hs
    · rw [List.mem_singleton.1 hs]; exact ⟨hr.cap, hr.capMax⟩
  · intro s hs hne a ha y hy
    have hy3 : some y.block = A.map (·.block) ∨ y.block = w2.heap.size := by
      rw [hy] at ha3
      rcases ha3 with e | e
      · exact .inl e
      · exact .inr (Option.some.inj e)
    rcases List.mem_append.1 hs with hs | hs
    · have hlt := erow_ltE (h.rows s hs) hne a ha
      rcases hy3 with e | e
      · cases hA : A with
        | none => rw [hA] at e; simp at e
        | some z =>
          rw [hA] at e
          have := h.ne s hs hne a ha z hA
          simp at e
          omega
      · omega
    · rw [List.mem_singleton.1 hs] at ha
      have hb := hr.block a ha
      rcases hy3 with e | e
      · cases hA : A with
        | none => rw [hA] at e; simp at e
        | some z =>
          rw [hA] at e
          have := hAb z hA
          simp at e
          omega
      · omega
  · intro s hs a ha
    rcases List.mem_append.1 hs with hs | hs
    · exact h.lo s hs a ha
    · rw [List.mem_singleton.1 hs] at ha
      have hb := hr.block a ha
      have := h.size
      omega
/-- A store below all of it. -/
theorem NLoop.setLow (h : NLoop E F pa pl pc B W A c R) (p : Addr) (hp : p.block < B) (u : Value) : NLoop E F pa pl pc B (W.setCell p u) A c R := by
  refine ⟨h.own.set p (fun a ha => by have := (h.own.block a ha).1; omega) u, fun r hr => ?_, h.cap, h.ne, h.lo, by simpa using h.size⟩
  exact (h.rows r hr).keep (by simp) (fun a ha _ => heap_setCell_other W p a.block u (by have := h.lo r hr a ha; omega))
end Go.Proofs.YtjdffhonljhpcaaGreat
end

section
/-
  The contract of stats.Of.
-/
namespace Go.Proofs.YtjdffhonljhpcaaGreat
set_option linter.unusedSimpArgs false
set_option linter.unusedVariables false
open Go.RowKit

def Cs.k (x : Cs) : Int × Int × List Int := (x.d, x.n, x.b)
namespace Ev
/-- A column's values that are not Null, in their order. -/
def colS (L : List Rw) (c : Nat) : List Va := (L.map fun r => atV r.l (c : Int)).filter fun v => v.k != 0
def sortC (L : List Rw) (c : Nat) : List Va := Srt.ssort Key.vord (colS L c)
/-- What is known of a column of rows. -/
def csOf (L : List Rw) (c : Nat) : Int × Int × List Int := (((distN (sortC L c) (sortC L c).length : Nat) : Int), (L.length : Int) - ((sortC L c).length : Int), boundsC (wholeN (sortC L c)))
def colN (c : Nat) : Nd := .mk 2 [] Key.nul (c : Int) false 0 none [] 0
theorem eval_colN (row : List Va) (c : Nat) : eval row (colN c) = atV row (c : Int) := rfl
theorem colS_snoc (L : List Rw) (r : Rw) (c : Nat) : colS (L ++ [r]) c = colS L c ++ if (atV r.l (c : Int)).k = 0 then [] else [atV r.l (c : Int)] := by
  unfold colS
  rw [List.map_append, List.filter_append]
  congr 1
  by_cases h : (atV r.l (c : Int)).k = 0 <;> simp [h]
theorem colS_len (L : List Rw) (c : Nat) : (colS L c).length ≤ L.length := by
  unfold colS
  exact Nat.le_trans (List.length_filter_le _ _) (by simp)
theorem sortC_len (L : List Rw) (c : Nat) : (sortC L c).length ≤ L.length := by unfold sortC; rw [Srt.ssort_length]; exact colS_len L c
theorem colS_at {L : List Rw} {c : Nat} {v : Va} (h : v ∈ colS L c) : ∃ r ∈ L, v = atV r.l (c : Int) ∧ v.k ≠ 0 := by
  unfold colS at h
  obtain ⟨h1, h2⟩ := List.mem_filter.1 h
  obtain ⟨r, hr, rfl⟩ := List.mem_map.1 h1
  exact ⟨r, hr, rfl, by simpa using h2⟩
end Ev
/-- What is known of columns, in a row of one's own. -/
abbrev CLoop := NLoop eCs eI64 Cs.a Cs.b Cs.c
/-- What Of answers. -/
def RetSt (w : World) (L : List Rw) (m : Nat) (e : Ending) (w' : World) : Prop := ∃ A c R, e = .returned (.agg #[.int .i64 L.length, .slice A m c]) ∧ CLoop w.heap.size w' A c R ∧ R.map Cs.k = (List.range m).map (Ev.csOf L) ∧ Below w.heap.size w w'
theorem load_st {w : World} {g : Nat} {n : Int} {A : Option Addr} {k c : Nat} {T : TypeId} (h : Blk w g T [.int .i64 n, .slice A k c]) : (loadVar 54 ⟨g, 0, none⟩).run Tryz.prog w = .ok (.agg #[.int .i64 n, .slice A k c]) w := by
  have h0 := h.cell 0
  have h1 := h.cell 1
  simp only [List.getElem?_cons_zero, List.getElem?_cons_succ] at h0 h1
  go_simp
/-- Where Of stands behind i columns. -/
structure OfAt (w W : World) (g4 g5 : Nat) (L : List Rw) (i : Nat) (A : Option Addr) (c : Nat) (R : List Cs) : Prop where
  b4 : Blk W g4 54 [.int .i64 0, .slice none 0 0]
  b5 : Blk W g5 54 [.int .i64 L.length, .slice A i c]
  lp : CLoop (g5 + 1) W A c R
  ks : R.map Cs.k = (List.range i).map (Ev.csOf L)
  below : Below w.heap.size w W
theorem OfAt.len {w W : World} {g4 g5 : Nat} {L : List Rw} {i : Nat} {A : Option Addr} {c : Nat} {R : List Cs} (h : OfAt w W g4 g5 L i A c R) : R.length = i := by
  have := congrArg List.length h.ks
  simpa using this
theorem OfAt.go {w W W' : World} {g4 g5 : Nat} {L : List Rw} {i : Nat} {A : Option Addr} {c : Nat} {R : List Cs} (h : OfAt w W g4 g5 L i A c R) (hB : Below W.heap.size W W') : OfAt w W' g4 g5 L i A c R :=
  ⟨h.b4.below hB, h.b5.below hB, h.lp.below hB, h.ks, h.below.then hB⟩
end Go.Proofs.YtjdffhonljhpcaaGreat
end

section
/-
  The contract of the law's lives.
-/
namespace Go.Proofs.YtjdffhonljhpcaaGreat
set_option linter.unusedSimpArgs false
set_option linter.unusedVariables false
open Go.RowKit

namespace Ev
def iV (n : Int) : Va := ⟨1, n, 0, []⟩
theorem iV_ok {n : Int} (h : -9223372036854775808 ≤ n ∧ n ≤ 9223372036854775807) : (iV n).ok := ⟨by show (-9223372036854775808 : Int) ≤ 1; decide, by show (1 : Int) ≤ 9223372036854775807; decide, h.1, h.2, by show 0 < 18446744073709551616; decide⟩
theorem vord_iV (a b : Int) : Key.vord (iV a) (iV b) = if a < b then -1 else if b < a then 1 else 0 := by
  unfold Key.vord
  simp only [Key.vless_num (a := iV a) (b := iV b) rfl (by show (1 : Int) ≠ 2; decide) (by show (1 : Int) ≠ 3; decide), Key.vless_num (a := iV b) (b := iV a) rfl (by show (1 : Int) ≠ 2; decide) (by show (1 : Int) ≠ 3; decide)]
  rfl
theorem ssort_sorted_self {L : List Va} (h : Srt.Sorted Key.vord L) (hok : ∀ v ∈ L, v.ok) (hcl : ∀ v ∈ L, Key.clean v = v) : Srt.ssort Key.vord L = L :=
  Srt.sorted_unique Key.vord_ord _ _ (Srt.ssort_sorted Key.vord_ord L) h (Srt.ssort_perm _ L) fun x hx y hy h0 =>
    eq_of_vord (hok x ((Srt.ssort_perm _ L).mem_iff.1 hx)) (hok y ((Srt.ssort_perm _ L).mem_iff.1 hy)) (hcl x ((Srt.ssort_perm _ L).mem_iff.1 hx)) (hcl y ((Srt.ssort_perm _ L).mem_iff.1 hy)) h0
theorem sort_three : Srt.ssort Key.vord [iV 1, iV 2, iV 2] = [iV 1, iV 2, iV 2] := by
  refine ssort_sorted_self ?_ ?_ ?_
  · unfold Srt.Sorted
    simp [vord_iV]
  · intro v hv
    simp at hv
    rcases hv with rfl | rfl <;> exact iV_ok (by omega)
  · intro v hv
    simp at hv
    rcases hv with rfl | rfl <;> rfl
theorem dist_three : distN [iV 1, iV 2, iV 2] 3 = 2 := by
  simp [distN, nth, vord_iV]
/-- What is known of four rows. -/
theorem csOf_four (a b c d : Rw) (ha : a.l = [iV 1]) (hb : b.l = [iV 2]) (hc : c.l = [iV 2]) (hd : d.l = []) : (csOf [a, b, c, d] 0).1 = 2 ∧ (csOf [a, b, c, d] 0).2.1 = 1 ∧ (csOf [a, b, c, d] 0).2.2.length = 9 := by
  have hS : sortC [a, b, c, d] 0 = [iV 1, iV 2, iV 2] := by
    unfold sortC
    have : colS [a, b, c, d] 0 = [iV 1, iV 2, iV 2] := by
      unfold colS
      simp only [List.map_cons, List.map_nil, ha, hb, hc, hd]
      rfl
    rw [this, sort_three]
  unfold csOf
  rw [hS]
  refine ⟨?_, rfl, ?_⟩
  · show ((distN [iV 1, iV 2, iV 2] 3 : Nat) : Int) = 2
    rw [dist_three]
    rfl
  · show (boundsC (wholeN [iV 1, iV 2, iV 2])).length = 9
    unfold boundsC
    rw [if_neg (by decide), boundsN_len]
end Ev
end Go.Proofs.YtjdffhonljhpcaaGreat
end

section
/-
  The contracts of the law's size, and of both Columns.
-/
namespace Go.Proofs.YtjdffhonljhpcaaGreat
set_option linter.unusedSimpArgs false
set_option linter.unusedVariables false
open Go.RowKit

/-- Some number. -/
def RetNum15 (w : World) (e : Ending) (w' : World) : Prop := ∃ r : Int, e = .returned (.int .i64 r) ∧ Below w.heap.size w w'
namespace Ev
mutual
/-- Has a node a column? -/
def hasCol : Nd → Bool
  | .mk k _ _ _ _ _ _ args _ => k == 2 || hasColL args
def hasColL : List Nd → Bool
  | [] => false
  | n :: l => hasCol n || hasColL l
end
theorem hasCol_eq (n : Nd) : hasCol n = (n.k == 2 || hasColL n.args) := by cases n; rfl
theorem hasColL_any (l : List Nd) : hasColL l = l.any hasCol := by
  induction l with
  | nil => rfl
  | cons n l ih => show (hasCol n || hasColL l) = _; rw [ih]; rfl
end Ev
def RetBo (w : World) (b : Bool) (e : Ending) (w' : World) : Prop := e = .returned (.bool b) ∧ Below w.heap.size w w'
/-- What stats.Columns answers, in all worlds behind w. -/
def ColsTo (w : World) (n : Nd) : Prop := ∀ W, Below w.heap.size w W → Calls Tryz.prog 78 #[n.v] W (RetBo W (Ev.hasCol n))
def RetIx (w : World) (b : Bool) (e : Ending) (w' : World) : Prop := ∃ k : Int, e = .returned (.int .i64 k) ∧ decide (0 ≤ k) = b ∧ Below w.heap.size w w'
theorem hasCol_take {L : List Nd} {i : Nat} (h : i < L.length) : (L.take (i + 1)).any Ev.hasCol = ((L.take i).any Ev.hasCol || Ev.hasCol L[i]) := by
  rw [List.take_succ_eq_append_getElem h, List.any_append]
  simp
set_option maxRecDepth 20000 in
set_option maxHeartbeats 4000000 in
theorem idxf_any (w : World) (A : Option Addr) (c : Nat) (L : List Nd) (hL : ERow eNd w A L) (hlen : L.length ≤ 9223372036854775807) (ih : ∀ m ∈ L, ColsTo w m) (W : World) (hB : Below w.heap.size w W) :
    Calls Tryz.prog 73 #[.slice A L.length c, .func (.func 78) #[] #[]] W (RetIx W (Ev.hasColL L)) := by
  have HL := Lib.hid (hL.below hB)
  have HI := Lib.hid ih
  have HB := Lib.hid hB
  have HD := Lib.hid (Ev.hasColL_any L)
  clear hL ih hB
  go_enter Tryz.func73, Tryz.ntmps73
  go_wp2_with fail
  go_loopw [8] (fun iv wr => ∃ i : Nat, i ≤ L.length ∧ iv = .int .i64 (i : Int) ∧ Hid ((L.take i).any Ev.hasCol = false ∧ Below W.heap.size W wr)) (fun iv _ => L.length - (intOf iv).toNat)
  case atStart => exact ⟨0, Nat.zero_le _, by go_num, by simp, Below.refl _ _⟩
  case round =>
    obtain ⟨i, hi, rfl, HJ⟩ := hrel
    by_cases hlt : i < L.length
    · have hii : (i : Int) < (L.length : Int) := by omega
      obtain ⟨bb, oo, ha, -, -⟩ := HL.out.at_ hlt
      have HIW : Hid (ERow eNd wr (some ⟨bb, oo, none⟩) L) := by show ERow _ _ _ _; rw [← ha]; exact HL.out.below HJ.out.2
      have HTK := Lib.hid (hasCol_take hlt)
      rw [ha]
      clear ha
      go_wp2_with (refine wpList_load_nd_at rfl (.tmp 14) rfl HIW.out hlt rfl ?_)
      refine (HI.out _ (List.getElem_mem hlt) wr (HB.out.then HJ.out.2)).mono ?_
      rintro e W8 ⟨rfl, hB8⟩
      have HB8 := Lib.hid (HJ.out.2.then hB8)
      clear hB8
      cases hb : Ev.hasCol L[i] with
      | true =>
        have HR : Hid (decide (0 ≤ (i : Int)) = Ev.hasColL L) := by
          show _ = _
          rw [HD.out, decide_eq_true (by omega)]
          exact (List.any_eq_true.2 ⟨L[i], List.getElem_mem hlt, hb⟩).symm
        clear hb
        go_wp2_with fail
        go_ret
        exact ⟨_, rfl, HR.out, HB8.out⟩
      | false =>
        have HR : Hid ((L.take (i + 1)).any Ev.hasCol = false) := by show _ = _; rw [HTK.out, HJ.out.1, hb]; rfl
        clear hb
        go_wp2_with fail
        go_roundw
        case rel => exact ⟨i + 1, by omega, by go_num, HR.out, HB8.out⟩
        case measure => simp [intOf]; omega
    · have hii : ¬ (i : Int) < (L.length : Int) := by omega
      have HR : Hid (decide (0 ≤ (-1 : Int)) = Ev.hasColL L) := by
        show _ = _
        have e := HJ.out.1
        rw [List.take_of_length_le (by omega)] at e
        rw [HD.out, e]
        rfl
      go_wp2_with fail
      go_ret
      exact ⟨_, rfl, HR.out, HJ.out.2⟩
theorem ctnf_any (w : World) (A : Option Addr) (c : Nat) (L : List Nd) (hL : ERow eNd w A L) (hlen : L.length ≤ 9223372036854775807) (ih : ∀ m ∈ L, ColsTo w m) (W : World) (hB : Below w.heap.size w W) :
    Calls Tryz.prog 88 #[.slice A L.length c, .func (.func 78) #[] #[]] W (RetBo W (Ev.hasColL L)) := by
  have HX := Lib.hid (idxf_any w A c L hL hlen ih W hB)
  clear hL ih hB
  go_enter Tryz.func88, Tryz.ntmps88
  go_wp2_with fail
  refine HX.out.mono ?_
  rintro e W8 ⟨k, rfl, hk, hB8⟩
  have HB8 := Lib.hid hB8
  have HK := Lib.hid hk
  clear hB8 hk
  go_wp2_with fail
  go_ret
  exact ⟨by rw [← HK.out]; rfl, HB8.out⟩
set_option maxRecDepth 20000 in
set_option maxHeartbeats 4000000 in
theorem cols_any (w : World) (n : Nd) (hn : NodeIn w n) : ColsTo w n := by
  induction hn with
  | @mk n hr hin hlit hls hk hat hc hm ih =>
  have hcm : n.args.length ≤ 9223372036854775807 := by unfold maxLen at hm; omega
  have HX := Lib.hid (fun W hB => ctnf_any w n.a n.c n.args hr hcm ih W hB)
  have HD := Lib.hid (Ev.hasCol_eq n)
  clear hr hin hlit hls hk hat hc hm ih
  intro W hB
  have HB := Lib.hid hB
  clear hB
  generalize Ev.hasCol n = D at HD ⊢
  go_enter Tryz.func78, Tryz.ntmps78
  go_upto_region 1 with (refine wpList_box_nd rfl (.tmp 0) rfl n rfl ?_; intro W1 hb1 hz1 hB1)
  have HB1 := Lib.hid hB1
  obtain ⟨c0, -, -, -, -, -, -, -, -, c9, -⟩ := Blk.c10 hb1
  clear hB1 hb1 hz1
  generalize W.heap.size = g2 at c0 c9 ⊢
  by_cases hk : n.k = 2
  · have HF : Hid (D = true) := by show _ = _; rw [HD.out, hk]; rfl
    rw [hk] at c0
    clear hk
    go_wp2_with fail
    go_ret
    exact ⟨by rw [HF.out]; rfl, HB1.out⟩
  · have HF : Hid (D = Ev.hasColL n.args) := by show _ = _; rw [HD.out]; simp [hk]
    have hkb : (n.k == 2) = false := by simpa using hk
    clear hk
    go_wp2_with fail
    refine (HX.out W1 (HB.out.then HB1.out)).mono ?_
    rintro e W8 ⟨rfl, hB8⟩
    have HB8 := Lib.hid (HB1.out.then hB8)
    clear hB8
    go_wp2_with fail
    go_ret
    exact ⟨by rw [HF.out]; rfl, HB8.out⟩
end Go.Proofs.YtjdffhonljhpcaaGreat
end

section
/-
  The contracts of dowserref15.near, stats.Turn and dowserref15.Turn.
-/
namespace Go.Proofs.YtjdffhonljhpcaaGreat
set_option linter.unusedSimpArgs false
set_option linter.unusedVariables false
open Go.RowKit

namespace Ev
/-- A sign turned round. -/
def turnS (op : List UInt8) : List UInt8 := if op = [60] then [62] else if op = [60, 61] then [62, 61] else if op = [62] then [60] else if op = [62, 61] then [60, 61] else op
theorem turnS_turnS (op : List UInt8) : turnS (turnS op) = op := by
  unfold turnS
  by_cases h1 : op = [60]
  · subst h1; rfl
  by_cases h2 : op = [60, 61]
  · subst h2; rfl
  by_cases h3 : op = [62]
  · subst h3; rfl
  by_cases h4 : op = [62, 61]
  · subst h4; rfl
  simp only [if_neg h1, if_neg h2, if_neg h3, if_neg h4]
end Ev
set_option maxRecDepth 20000 in
set_option maxHeartbeats 4000000 in
theorem turn_any (w : World) (op : List UInt8) : Calls Tryz.prog 76 #[txt op] w fun e w' => e = .returned (txt (Ev.turnS op)) ∧ w' = w := by
  have hgs := guard_str_is
  have HF : Hid (Ev.turnS op = if op = [60] then [62] else if op = [60, 61] then [62, 61] else if op = [62] then [60] else if op = [62, 61] then [60, 61] else op) := rfl
  generalize Ev.turnS op = D at HF ⊢
  go_enter Tryz.func76, Tryz.ntmps76
  by_cases h1 : op = [60]
  · have HF : Hid (D = [62]) := by show _ = _; rw [HF.out, if_pos h1]
    subst h1
    unfold txt
    go_wp2_with fail
    go_ret
    exact ⟨by rw [HF.out]; rfl, rfl⟩
  have n1 := run_str_is op [60] h1
  by_cases h2 : op = [60, 61]
  · have HF : Hid (D = [62, 61]) := by show _ = _; rw [HF.out, if_neg h1, if_pos h2]
    clear n1
    subst h2
    unfold txt
    go_wp2_with fail
    go_ret
    exact ⟨by rw [HF.out]; rfl, rfl⟩
  have n2 := run_str_is op [60, 61] h2
  by_cases h3 : op = [62]
  · have HF : Hid (D = [60]) := by show _ = _; rw [HF.out, if_neg h1, if_neg h2, if_pos h3]
    clear n1 n2
    subst h3
    unfold txt
    go_wp2_with fail
    go_ret
    exact ⟨by rw [HF.out]; rfl, rfl⟩
  have n3 := run_str_is op [62] h3
  by_cases h4 : op = [62, 61]
  · have HF : Hid (D = [60, 61]) := by show _ = _; rw [HF.out, if_neg h1, if_neg h2, if_neg h3, if_pos h4]
    clear n1 n2 n3
    subst h4
    unfold txt
    go_wp2_with fail
    go_ret
    exact ⟨by rw [HF.out]; rfl, rfl⟩
  have n4 := run_str_is op [62, 61] h4
  have HF : Hid (D = op) := by show _ = _; rw [HF.out, if_neg h1, if_neg h2, if_neg h3, if_neg h4]
  clear h1 h2 h3 h4
  go_wp2_with fail
  go_ret
  exact ⟨by rw [HF.out]; rfl, rfl⟩
theorem guard_str_si (t : TypeId) (x y : Operand) (l : List UInt8) (m : ByteArray) : eqGuard .eql t x y (.string m) (txt l) = pure () := rfl
theorem run_str_si (op m : List UInt8) (h : op ≠ m) (w : World) : (binOp .eql 9 (.string ⟨m.toArray⟩) (txt op)).run Tryz.prog w = .ok (.bool false) w := by
  have := run_str_eq m op w
  have e : (m == op) = false := by simp; exact fun e => h e.symm
  rw [e] at this
  exact this
end Go.Proofs.YtjdffhonljhpcaaGreat
end

section
/-
  The contract of the document's Same.
-/
namespace Go.Proofs.YtjdffhonljhpcaaGreat
set_option linter.unusedSimpArgs false
set_option linter.unusedVariables false
open Go.RowKit

theorem wpList_load_cs_is {w : World} {ops : Array Oper} {rest : List Oper} {o : Oper} {a : Act} {Q : Exit → Act → World → Prop} (hgd : o.guard = none) (x : Operand) (hop : o.op = .load 51 x) {b off : Nat} {L : List Cs} (hr : ERow eCs w (some ⟨b, off, none⟩) L) {j : Nat} (hj : j < L.length) (p : Cs) (hp : L[j] = p) (hx : a.eval x = .pointer (some ⟨b, off + j * 3, none⟩))
    (h : wpList Tryz.prog ops Q rest (a.put o.dst p.v) w) : wpList Tryz.prog ops Q (o :: rest) a w := by
  subst hp
  exact wpList_load_cs_at hgd x hop hr hj hx h
theorem wpList_box_st {w : World} {ops : Array Oper} {rest : List Oper} {o : Oper} {a : Act} {Q : Exit → Act → World → Prop} (hgd : o.guard = none) (x : Operand) (hop : o.op = .box 54 x) (n : Int) (A : Option Addr) (k c : Nat) (hx : a.eval x = .agg #[.int .i64 n, .slice A k c])
    (h : ∀ W, Blk W w.heap.size 54 [.int .i64 n, .slice A k c] → w.heap.size + 1 ≤ W.heap.size → Below w.heap.size w W → wpList Tryz.prog ops Q rest (a.put o.dst (.pointer (some ⟨w.heap.size, 0, none⟩))) W) : wpList Tryz.prog ops Q (o :: rest) a w :=
  wpList_plain hgd fun _ hK => by
    unfold Oper.wp execOp
    have e : (Instr.box 54 (.agg #[.int .i64 n, .slice A k c])).run Tryz.prog w = .ok (.pointer (some ⟨w.heap.size, 0, none⟩)) (w.alloc (.cells #[.int .i64 n, .slice A k c] 54)) := by
      simp [Instr.box, Sem.run_bind, newVar, newRow]
      rfl
    simp only [hop, hx, Sem.run_bind, e, Result.andThen_ok, Sem.run_pure]
    obtain ⟨h1, h2, h3⟩ := fresh1 (w := w) (a := [.int .i64 n, .slice A k c]) (t := 54) rfl
    exact hK _ _ (h _ h1 h2 h3)
theorem cell_kept {w W : World} {g b i : Nat} {v : Value} (hg : w.grownBy W (some g)) (hb : b < w.heap.size) (hne : b ≠ g) (h : w.cell? ⟨b, i, none⟩ = some v) : W.cell? ⟨b, i, none⟩ = some v :=
  (World.cell?_of_block (w := w) (hg.block b hb (fun e => hne (Option.some.inj e)))).trans h
/-- What is known of columns, that may be read. -/
structure CsIn (w : World) (A : Option Addr) (R : List Cs) : Prop where
  r : ERow eCs w A R
  rr : ∀ x ∈ R, ERow eI64 w x.a x.b
  len : R.length ≤ 100
  lens : ∀ x ∈ R, x.b.length ≤ 1000
theorem CsIn.below {w W : World} {A : Option Addr} {R : List Cs} (h : CsIn w A R) (hB : Below w.heap.size w W) : CsIn W A R := ⟨h.r.below hB, fun x hx => (h.rr x hx).below hB, h.len, h.lens⟩
end Go.Proofs.YtjdffhonljhpcaaGreat
end

section
/-
  The contract of stats.Against.
-/
namespace Go.Proofs.YtjdffhonljhpcaaGreat
set_option linter.unusedSimpArgs false
set_option linter.unusedVariables false
open Go.RowKit

namespace Ev
/-- A column's place, a sign, what stands against it. -/
def against (n : Nd) : Option (Int × List UInt8 × Nd) :=
  if n.k = 7 then
    match n.args with
    | [a, b] => if a.k = 2 ∧ hasCol b = false then some (a.at_, n.op, b) else if b.k = 2 ∧ hasCol a = false then some (b.at_, turnS n.op, a) else none
    | _ => none
  else none
def agAt (x : Option (Int × List UInt8 × Nd)) : Int := match x with | some y => y.1 | none => 0
def agOp (x : Option (Int × List UInt8 × Nd)) : List UInt8 := match x with | some y => y.2.1 | none => []
def agV (x : Option (Int × List UInt8 × Nd)) : Va := match x with | some y => eval [] y.2.2 | none => Key.nul
theorem against_no {n : Nd} (h : n.k ≠ 7 ∨ n.args.length ≠ 2) : against n = none := by
  unfold against
  by_cases hk : n.k = 7
  · rw [if_pos hk]
    have hl : n.args.length ≠ 2 := h.resolve_left (fun e => e hk)
    match n.args, hl with
    | [], _ => rfl
    | [_], _ => rfl
    | [_, _], h => exact absurd rfl h
    | _ :: _ :: _ :: _, _ => rfl
  · rw [if_neg hk]
theorem against_two {n a b : Nd} (hk : n.k = 7) (h : n.args = [a, b]) : against n = if a.k = 2 ∧ hasCol b = false then some (a.at_, n.op, b) else if b.k = 2 ∧ hasCol a = false then some (b.at_, turnS n.op, a) else none := by
  unfold against
  rw [if_pos hk, h]
end Ev
theorem ret_ag {P : Program} {fn : Func} {R : Ending → World → Prop} {a : Act} {w : World} {p u u' u'' : Tmp} {T : TypeId} {x : Addr} {v y y' y'' : Value} (h : fn.results = #[.tmp u, .tmp u', .cell p T, .tmp u'']) (hd : a.defers = [])
    (hp : a.tmps.getD p undef = .pointer (some x)) (hu : a.tmps.getD u undef = y) (hu' : a.tmps.getD u' undef = y') (hu'' : a.tmps.getD u'' undef = y'') (hv : (loadVar T x).run P w = .ok v w) (hR : R (.returned (.tuple #[y, y', v, y''])) w) : bodyPost P fn R .ret a w := by
  refine bodyPost_ret (v := .tuple #[y, y', v, y'']) ?_ hd hR
  have e : (results fn a.tmps).run P w = ((asAddr (a.tmps.getD p undef)).run P w).andThen fun b w1 => ((loadVar T b).run P w1).andThen fun v w2 => .ok (.tuple #[a.tmps.getD u undef, a.tmps.getD u' undef, v, a.tmps.getD u'' undef]) w2 := by
    simp only [results, h]
    simp [Sem.run_bind, Result.andThen]
  rw [e, hp, hu, hu', hu'']
  show (((loadVar T x).run P w).andThen _) = _
  rw [hv]
  rfl
theorem wpList_load_nd_is {w : World} {ops : Array Oper} {rest : List Oper} {o : Oper} {a : Act} {Q : Exit → Act → World → Prop} (hgd : o.guard = none) (x : Operand) (hop : o.op = .load 27 x) {b off : Nat} {L : List Nd} (hr : ERow eNd w (some ⟨b, off, none⟩) L) {j : Nat} (hj : j < L.length) (p : Nd) (hp : L[j] = p) (hx : a.eval x = .pointer (some ⟨b, off + j * 10, none⟩))
    (h : wpList Tryz.prog ops Q rest (a.put o.dst p.v) w) : wpList Tryz.prog ops Q (o :: rest) a w := by
  subst hp
  exact wpList_load_nd_at hgd x hop hr hj hx h
/-- What stats.Against answers. -/
def RetAg (w : World) (x : Option (Int × List UInt8 × Nd)) (e : Ending) (w' : World) : Prop := e = .returned (.tuple #[.int .i64 (Ev.agAt x), txt (Ev.agOp x), (Ev.agV x).v, .bool x.isSome]) ∧ Below w.heap.size w w'
set_option maxRecDepth 100000 in
set_option maxHeartbeats 8000000 in
theorem against_any (w : World) (n : Nd) (hn : NodeIn w n) : Calls Tryz.prog 68 #[n.v] w (RetAg w (Ev.against n)) := by
  have HN := Lib.hid hn
  clear hn
  obtain ⟨D, hD⟩ : ∃ D, Ev.against n = D := ⟨_, rfl⟩
  rw [hD]
  have HD := Lib.hid hD
  clear hD
  have hcm : n.args.length ≤ 9223372036854775807 := by have h := HN.out; cases h with | mk h1 h2 h3 h4 h5 h6 h7 h8 => unfold maxLen at h8; omega
  go_enter Tryz.func68, Tryz.ntmps68
  go_upto_region 1 with (first | (refine wpList_box_nd rfl (.tmp 0) rfl n rfl ?_; intro W1 hb1 hz1 hB1) | (refine wpList_alloc_va rfl rfl ?_; intro W2 hb2 hz2 hB2))
  have h1 := hb1.below hB2
  have HB2 := Lib.hid (hB1.then hB2)
  have h14 : w.heap.size < W1.heap.size := by omega
  clear hb1 hB1 hB2 hz1
  obtain ⟨g4, hg4⟩ : ∃ g, W1.heap.size = g := ⟨_, rfl⟩
  obtain ⟨g1, hg1⟩ : ∃ g, w.heap.size = g := ⟨_, rfl⟩
  rw [hg4] at hb2 h14
  rw [hg1] at h1 h14
  rw [hg4, hg1]
  have HG4 : Hid (w.heap.size ≤ g4) := by show _ ≤ _; omega
  clear hg4 hg1 hz2
  obtain ⟨c0, c1, -, -, -, -, -, -, -, c9, -⟩ := Blk.c10 h1
  by_cases hk : n.k = 7
  case neg =>
    have HF : Hid (D = none) := by show _ = _; rw [← HD.out]; exact Ev.against_no (.inl hk)
    have hkb : (n.k != 7) = true := by simpa using hk
    clear hk
    go_wp2_with (refine wpList_store_va rfl rfl (.tmp 4) (.tmp 17) rfl g4 rfl Key.nul rfl hb2 ?_; intro Wa hba hga)
    exact ret_ag rfl rfl rfl rfl rfl rfl hba.va ⟨by rw [HF.out]; rfl, below_of_grown HB2.out hga (by have := HG4.out; omega) HB2.out.size⟩
  by_cases hl : n.args.length = 2
  case neg =>
    have HF : Hid (D = none) := by show _ = _; rw [← HD.out]; exact Ev.against_no (.inr hl)
    have hlb : ((n.args.length : Int) != 2) = true := by simp; omega
    rw [hk] at c0
    clear hk hl
    go_wp2_with (refine wpList_store_va rfl rfl (.tmp 4) (.tmp 17) rfl g4 rfl Key.nul rfl hb2 ?_; intro Wa hba hga)
    exact ret_ag rfl rfl rfl rfl rfl rfl hba.va ⟨by rw [HF.out]; rfl, below_of_grown HB2.out hga (by have := HG4.out; omega) HB2.out.size⟩
  obtain ⟨a, b, hab⟩ : ∃ a b, n.args = [a, b] := by
    match n.args, hl with
    | [a, b], _ => exact ⟨a, b, rfl⟩
  have HDC : Hid (D = if a.k = 2 ∧ Ev.hasCol b = false then some (a.at_, n.op, b) else if b.k = 2 ∧ Ev.hasCol a = false then some (b.at_, Ev.turnS n.op, a) else none) := by show _ = _; rw [← HD.out]; exact Ev.against_two hk hab
  have HIA : Hid (NodeIn w a ∧ NodeIn w b) := by
    have h := HN.out
    cases h with
    | mk h1 h2 => exact ⟨h2 a (by rw [hab]; simp), h2 b (by rw [hab]; simp)⟩
  have HRW : Hid (ERow eNd w n.a [a, b]) := by
    have h := HN.out
    cases h with
    | mk h1 h2 => rw [← hab]; exact h1
  obtain ⟨ba, oa, hA, -, -⟩ := HRW.out.at_ (j := 0) (by simp)
  rw [hk] at c0
  rw [hl, hA] at c9
  have HRW : Hid (ERow eNd w (some ⟨ba, oa, none⟩) [a, b]) := by show ERow _ _ _ _; rw [← hA]; exact HRW.out
  have H1 := Lib.hid h1
  have H2 := Lib.hid hb2
  clear hk hl hab hA HN HD hcm
  obtain ⟨op, hop⟩ : ∃ op, n.op = op := ⟨_, rfl⟩
  have HC1 : Hid (∀ W, Below W2.heap.size W2 W → W.cell? ⟨g1, 1, none⟩ = some (txt op)) := fun W hW => by
    obtain ⟨-, c1, -⟩ := Blk.c10 (H1.out.below hW)
    rw [← hop]
    exact c1
  rw [hop] at c1 HDC
  clear hop c1
  go_upto_region 3 with fail
  go_cut [6, 7] (fun v6 v7 wx => ∃ g6 g7 : Nat, v6 = .pointer (some ⟨g6, 0, none⟩) ∧ v7 = .pointer (some ⟨g7, 0, none⟩) ∧ Hid (Blk wx g6 27 a.cells ∧ Blk wx g7 27 b.cells ∧ Below W2.heap.size W2 wx))
  case first =>
    have HAX : Hid (∀ W, Below W2.heap.size W2 W → ERow eNd W (some ⟨ba, oa, none⟩) [a, b]) := fun W h => HRW.out.below (HB2.out.then h)
    have hj0 : 0 < [a, b].length := by simp
    have hj1 : 1 < [a, b].length := by simp
    have hB : Below W2.heap.size W2 W2.drew := (Below.refl _ _).drewR
    have h1lt : g1 < W2.heap.size := H1.out.lt
    have c9 : W2.drew.cell? _ = _ := c9
    have hwd : W2.drew.heap.size = W2.heap.size := rfl
    clear c0 h1 hb2 HB2 HRW HDC HIA HG4 H1 H2 HC1
    refine wp_region_plan (.take 0 (.take 1 (.take 2 (.take 3 (.take 4 (.take 5 (.take 6 (.take 7 (.fork (.run 8 [0, 1, 2, 3, 4, 5, 6, 7] (.run 9 [0, 1, 2, 3, 4, 5, 6, 7] (.run 10 [4, 5, 6, 7] (.run 11 [] .fin)))) (.run 9 [0, 1, 2, 3, 4, 5, 6, 7] (.run 8 [0, 1, 2, 3, 4, 5, 6, 7] (.run 10 [4, 5, 6, 7] (.run 11 [] .fin))))))))))))) (by kernel_rfl) (by kernel_rfl) (by kernel_rfl) (by kernel_rfl) ?_
    repeat' (first | (refine hZ _ _ ?_; clear hZ) | (refine hZ _ ?_; clear hZ) | (refine hZ ?_; clear hZ) | rw [again_nil] | (rw [walk_fin]; go_wp2_with fail; go_meet; (case rel => exact ⟨_, _, rfl, rfl, h6, h7, hB⟩)) | (rw [walk_fork]; refine ⟨?_, ?_⟩) | ((first | rw [walk_take] | rw [walk_run] | rw [again_cons]); intro Z hZ; simp only [sel, List.getElem?_toArray, List.getElem?_cons_zero, List.getElem?_cons_succ]; go_wp2_with (first | (refine wpList_load_nd_is rfl (.tmp 20) rfl (HAX.out _ hB) hj0 a rfl rfl ?_) | (refine wpList_load_nd_is rfl (.tmp 24) rfl (HAX.out _ hB) hj1 b rfl rfl ?_) | (refine wpList_alloc_nd (o := ⟨some 6, _, _, _, _, _⟩) rfl rfl ?_; intro W h6 hz6 hn; (try replace h7 := h7.below hn); replace c9 := cell_later hn c9; replace hB := hB.then hn) | (refine wpList_alloc_nd (o := ⟨some 7, _, _, _, _, _⟩) rfl rfl ?_; intro W h7 hz7 hn; (try replace h6 := h6.below hn); replace c9 := cell_later hn c9; replace hB := hB.then hn) | (refine wpList_store_nd rfl rfl (.tmp 6) (.tmp 21) rfl _ rfl a rfl h6 ?_; intro W h6 hg; have hs' := hB.size; replace h7 := h7.grown hg (by simp only [ne_eq, Option.some.injEq]; omega); replace c9 := cell_kept hg (by omega) (by omega) c9; replace hB := below_of_grown hB hg (by omega) hB.size) | (refine wpList_store_nd rfl rfl (.tmp 7) (.tmp 25) rfl _ rfl b rfl h7 ?_; intro W h7 hg; have hs' := hB.size; replace h6 := h6.grown hg (by simp only [ne_eq, Option.some.injEq]; omega); replace hB := below_of_grown hB hg (by omega) hB.size))))
  case rest =>
    obtain ⟨g6, g7, rfl, rfl, HX⟩ := hcut
    have HBX : Hid (Below w.heap.size w wc) := HB2.out.then HX.out.2.2
    have HK : Hid (Below W2.heap.size W2 wc) := HX.out.2.2
    have h6 := HX.out.1
    have h7 := HX.out.2.1
    have h4 := H2.out.below HX.out.2.2
    have HEV := Lib.hid (fun m hm W hW => eval_any w none 0 [] ERow.nil (by simp) (by simp) m hm W hW)
    clear HX c0 c9 h1 hb2
    obtain ⟨a0, -, -, -, -, -, a6, -, -, -, -⟩ := Blk.c10 h6
    by_cases ha : a.k = 2
    · have HA := Lib.hid ha
      rw [ha] at a0
      clear ha
      obtain ⟨e0, e1, e2, e3, e4, e5, e6, e7, e8, e9, -⟩ := Blk.c10 h7
      go_wp2_with fail
      refine (show Calls _ _ #[b.v] _ _ from cols_any w b HIA.out.2 wc HBX.out).mono ?_
      rintro e w1 ⟨rfl, hB⟩
      have HBX := Lib.hid (HBX.out.then hB)
      have HK := Lib.hid (HK.out.then hB)
      have h6 := h6.below hB
      have h7 := h7.below hB
      have h4 := h4.below hB
      have a6 := cell_later hB a6
      clear hB a0 e0 e1 e2 e3 e4 e5 e6 e7 e8 e9
      cases hcb : Ev.hasCol b with
      | false =>
        have HF : Hid (D = some (a.at_, op, b)) := by show _ = _; rw [HDC.out, if_pos ⟨HA.out, hcb⟩]
        clear hcb
        go_upto_region 5 with fail
        have h7d := h7.drew
        have h4d := h4.drew
        have a6d : w1.drew.cell? _ = _ := a6
        have c1d := HC1.out w1.drew HK.out.drewR
        have HBD : Hid (Below w.heap.size w w1.drew) := HBX.out.drewR
        clear h6 h7 h4 a6
        refine wp_region_plan (.take 0 (.take 1 (.take 2 (.take 3 (.take 4 (.run 5 [0, 1, 2, 3] (.take 6 (.take 7 (.run 8 [] (.take 9 .fin)))))))))) (by kernel_rfl) (by kernel_rfl) (by kernel_rfl) (by kernel_rfl) ?_
        repeat' (first | (refine hZ _ _ ?_; clear hZ) | (refine hZ _ ?_; clear hZ) | (refine hZ ?_; clear hZ) | rw [again_nil] | rw [walk_fin] | ((first | rw [walk_take] | rw [walk_run] | rw [again_cons]); intro Z hZ; simp only [sel, List.getElem?_toArray, List.getElem?_cons_zero, List.getElem?_cons_succ]; go_wp2_with (refine wpList_load_nd rfl (.tmp 7) rfl g7 rfl h7d ?_)))
        refine (show Calls _ _ _ _ _ from HEV.out b HIA.out.2 w1.drew HBD.out).mono ?_
        rintro e w3 ⟨rfl, hB⟩
        have a6d := cell_later hB a6d
        have c1d := cell_later hB c1d
        have h4d := h4d.below hB
        have HB3 := Lib.hid (HBD.out.then hB)
        obtain ⟨x, hx⟩ : ∃ x, Ev.eval [] b = x := ⟨_, rfl⟩
        have HXE := Lib.hid hx
        rw [hx]
        clear hB h7d hx
        go_wp2_with fail
        repeat' (first | (refine hZ _ _ ?_; clear hZ) | (refine hZ _ ?_; clear hZ) | (refine hZ ?_; clear hZ) | rw [again_nil] | rw [walk_fin] | ((first | rw [walk_take] | rw [walk_run] | rw [again_cons]); intro Z hZ; simp only [sel, List.getElem?_toArray, List.getElem?_cons_zero, List.getElem?_cons_succ]; go_wp2_with (refine wpList_store_va rfl rfl (.tmp 4) (.tmp 40) rfl g4 rfl x rfl h4d ?_; intro Wa hba hga)))
        go_wp2_with fail
        exact ret_ag rfl rfl rfl rfl rfl rfl hba.va ⟨by rw [HF.out, ← HXE.out]; rfl, below_of_grown HB3.out hga (by have := HG4.out; omega) HB3.out.size⟩
      | true =>
        have HNO : Hid (¬ (a.k = 2 ∧ Ev.hasCol b = false)) := by rintro ⟨-, h⟩; rw [hcb] at h; cases h
        clear hcb a6
        obtain ⟨b0, -, -, -, -, -, b6, -, -, -, -⟩ := Blk.c10 h7
        by_cases hb : b.k = 2
        · have HBK := Lib.hid hb
          rw [hb] at b0
          clear hb
          obtain ⟨e0, e1, e2, e3, e4, e5, e6, e7, e8, e9, -⟩ := Blk.c10 h6
          go_wp2_with fail
          refine (show Calls _ _ #[a.v] _ _ from cols_any w a HIA.out.1 w1 HBX.out).mono ?_
          rintro e w2 ⟨rfl, hB⟩
          have HBX := Lib.hid (HBX.out.then hB)
          have HK := Lib.hid (HK.out.then hB)
          have h6 := h6.below hB
          have h4 := h4.below hB
          have b6 := cell_later hB b6
          clear hB b0 h7 e0 e1 e2 e3 e4 e5 e6 e7 e8 e9
          cases hca : Ev.hasCol a with
          | false =>
            have HF : Hid (D = some (b.at_, Ev.turnS op, a)) := by show _ = _; rw [HDC.out, if_neg HNO.out, if_pos ⟨HBK.out, hca⟩]
            clear hca
            go_upto_region 7 with fail
            have h6d := h6.drew
            have h4d := h4.drew
            have b6d : w2.drew.cell? _ = _ := b6
            have c1d := HC1.out w2.drew HK.out.drewR
            have HBD : Hid (Below w.heap.size w w2.drew) := HBX.out.drewR
            clear h6 h4 b6
            refine wp_region_plan (.take 0 (.take 1 (.take 2 (.take 3 (.take 5 (.run 4 [0, 1, 5] (.run 6 [0, 1] (.take 7 (.take 8 (.run 9 [] (.take 10 .fin))))))))))) (by kernel_rfl) (by kernel_rfl) (by kernel_rfl) (by kernel_rfl) ?_
            repeat' (first | (refine hZ _ _ ?_; clear hZ) | (refine hZ _ ?_; clear hZ) | (refine hZ ?_; clear hZ) | rw [again_nil] | rw [walk_fin] | ((first | rw [walk_take] | rw [walk_run] | rw [again_cons]); intro Z hZ; simp only [sel, List.getElem?_toArray, List.getElem?_cons_zero, List.getElem?_cons_succ]; go_wp2_with (refine wpList_load_nd rfl (.tmp 6) rfl g6 rfl h6d ?_)))
            refine (turn_any w2.drew op).mono ?_
            rintro e w4 ⟨rfl, h4e⟩
            rw [h4e]
            clear h4e
            go_wp2_with fail
            repeat' (first | (refine hZ _ _ ?_; clear hZ) | (refine hZ _ ?_; clear hZ) | (refine hZ ?_; clear hZ) | rw [again_nil] | rw [walk_fin] | ((first | rw [walk_take] | rw [walk_run] | rw [again_cons]); intro Z hZ; simp only [sel, List.getElem?_toArray, List.getElem?_cons_zero, List.getElem?_cons_succ]; go_wp2_with (refine wpList_load_nd rfl (.tmp 6) rfl g6 rfl h6d ?_)))
            refine (show Calls _ _ _ _ _ from HEV.out a HIA.out.1 w2.drew HBD.out).mono ?_
            rintro e w3 ⟨rfl, hB⟩
            have b6d := cell_later hB b6d
            have h4d := h4d.below hB
            have HB3 := Lib.hid (HBD.out.then hB)
            obtain ⟨x, hx⟩ : ∃ x, Ev.eval [] a = x := ⟨_, rfl⟩
            have HXE := Lib.hid hx
            rw [hx]
            clear hB h6d hx c1d
            go_wp2_with fail
            repeat' (first | (refine hZ _ _ ?_; clear hZ) | (refine hZ _ ?_; clear hZ) | (refine hZ ?_; clear hZ) | rw [again_nil] | rw [walk_fin] | ((first | rw [walk_take] | rw [walk_run] | rw [again_cons]); intro Z hZ; simp only [sel, List.getElem?_toArray, List.getElem?_cons_zero, List.getElem?_cons_succ]; go_wp2_with (refine wpList_store_va rfl rfl (.tmp 4) (.tmp 56) rfl g4 rfl x rfl h4d ?_; intro Wa hba hga)))
            go_wp2_with fail
            exact ret_ag rfl rfl rfl rfl rfl rfl hba.va ⟨by rw [HF.out, ← HXE.out]; rfl, below_of_grown HB3.out hga (by have := HG4.out; omega) HB3.out.size⟩
          | true =>
            have HF : Hid (D = none) := by show _ = _; rw [HDC.out, if_neg HNO.out, if_neg (by rintro ⟨-, h⟩; rw [hca] at h; cases h)]
            clear hca
            go_wp2_with (refine wpList_store_va rfl rfl (.tmp 4) (.tmp 57) rfl g4 rfl Key.nul rfl h4 ?_; intro Wa hba hga)
            exact ret_ag rfl rfl rfl rfl rfl rfl hba.va ⟨by rw [HF.out]; rfl, below_of_grown HBX.out hga (by have := HG4.out; omega) HBX.out.size⟩
        · have HF : Hid (D = none) := by show _ = _; rw [HDC.out, if_neg HNO.out, if_neg (fun h => hb h.1)]
          have hbb : (b.k == 2) = false := by simpa using hb
          clear hb
          go_wp2_with (refine wpList_store_va rfl rfl (.tmp 4) (.tmp 57) rfl g4 rfl Key.nul rfl h4 ?_; intro Wa hba hga)
          exact ret_ag rfl rfl rfl rfl rfl rfl hba.va ⟨by rw [HF.out]; rfl, below_of_grown HBX.out hga (by have := HG4.out; omega) HBX.out.size⟩
    · have HNO : Hid (¬ (a.k = 2 ∧ Ev.hasCol b = false)) := fun h => ha h.1
      have hab : (a.k == 2) = false := by simpa using ha
      clear ha a6
      obtain ⟨b0, -, -, -, -, -, b6, -, -, -, -⟩ := Blk.c10 h7
      by_cases hb : b.k = 2
      · have HBK := Lib.hid hb
        rw [hb] at b0
        clear hb
        obtain ⟨e0, e1, e2, e3, e4, e5, e6, e7, e8, e9, -⟩ := Blk.c10 h6
        go_wp2_with fail
        refine (show Calls _ _ #[a.v] _ _ from cols_any w a HIA.out.1 wc HBX.out).mono ?_
        rintro e w2 ⟨rfl, hB⟩
        have HBX := Lib.hid (HBX.out.then hB)
        have HK := Lib.hid (HK.out.then hB)
        have h6 := h6.below hB
        have h4 := h4.below hB
        have b6 := cell_later hB b6
        clear hB b0 h7 e0 e1 e2 e3 e4 e5 e6 e7 e8 e9
        cases hca : Ev.hasCol a with
        | false =>
          have HF : Hid (D = some (b.at_, Ev.turnS op, a)) := by show _ = _; rw [HDC.out, if_neg HNO.out, if_pos ⟨HBK.out, hca⟩]
          clear hca
          go_upto_region 7 with fail
          have h6d := h6.drew
          have h4d := h4.drew
          have b6d : w2.drew.cell? _ = _ := b6
          have c1d := HC1.out w2.drew HK.out.drewR
          have HBD : Hid (Below w.heap.size w w2.drew) := HBX.out.drewR
          clear h6 h4 b6
          refine wp_region_plan (.take 0 (.take 1 (.take 2 (.take 3 (.take 5 (.run 4 [0, 1, 5] (.run 6 [0, 1] (.take 7 (.take 8 (.run 9 [] (.take 10 .fin))))))))))) (by kernel_rfl) (by kernel_rfl) (by kernel_rfl) (by kernel_rfl) ?_
          repeat' (first | (refine hZ _ _ ?_; clear hZ) | (refine hZ _ ?_; clear hZ) | (refine hZ ?_; clear hZ) | rw [again_nil] | rw [walk_fin] | ((first | rw [walk_take] | rw [walk_run] | rw [again_cons]); intro Z hZ; simp only [sel, List.getElem?_toArray, List.getElem?_cons_zero, List.getElem?_cons_succ]; go_wp2_with (refine wpList_load_nd rfl (.tmp 6) rfl g6 rfl h6d ?_)))
          refine (turn_any w2.drew op).mono ?_
          rintro e w4 ⟨rfl, h4e⟩
          rw [h4e]
          clear h4e
          go_wp2_with fail
          repeat' (first | (refine hZ _ _ ?_; clear hZ) | (refine hZ _ ?_; clear hZ) | (refine hZ ?_; clear hZ) | rw [again_nil] | rw [walk_fin] | ((first | rw [walk_take] | rw [walk_run] | rw [again_cons]); intro Z hZ; simp only [sel, List.getElem?_toArray, List.getElem?_cons_zero, List.getElem?_cons_succ]; go_wp2_with (refine wpList_load_nd rfl (.tmp 6) rfl g6 rfl h6d ?_)))
          refine (show Calls _ _ _ _ _ from HEV.out a HIA.out.1 w2.drew HBD.out).mono ?_
          rintro e w3 ⟨rfl, hB⟩
          have b6d := cell_later hB b6d
          have h4d := h4d.below hB
          have HB3 := Lib.hid (HBD.out.then hB)
          obtain ⟨x, hx⟩ : ∃ x, Ev.eval [] a = x := ⟨_, rfl⟩
          have HXE := Lib.hid hx
          rw [hx]
          clear hB h6d hx c1d
          go_wp2_with fail
          repeat' (first | (refine hZ _ _ ?_; clear hZ) | (refine hZ _ ?_; clear hZ) | (refine hZ ?_; clear hZ) | rw [again_nil] | rw [walk_fin] | ((first | rw [walk_take] | rw [walk_run] | rw [again_cons]); intro Z hZ; simp only [sel, List.getElem?_toArray, List.getElem?_cons_zero, List.getElem?_cons_succ]; go_wp2_with (refine wpList_store_va rfl rfl (.tmp 4) (.tmp 56) rfl g4 rfl x rfl h4d ?_; intro Wa hba hga)))
          go_wp2_with fail
          exact ret_ag rfl rfl rfl rfl rfl rfl hba.va ⟨by rw [HF.out, ← HXE.out]; rfl, below_of_grown HB3.out hga (by have := HG4.out; omega) HB3.out.size⟩
        | true =>
          have HF : Hid (D = none) := by show _ = _; rw [HDC.out, if_neg HNO.out, if_neg (by rintro ⟨-, h⟩; rw [hca] at h; cases h)]
          clear hca
          go_wp2_with (refine wpList_store_va rfl rfl (.tmp 4) (.tmp 57) rfl g4 rfl Key.nul rfl h4 ?_; intro Wa hba hga)
          exact ret_ag rfl rfl rfl rfl rfl rfl hba.va ⟨by rw [HF.out]; rfl, below_of_grown HBX.out hga (by have := HG4.out; omega) HBX.out.size⟩
      · have HF : Hid (D = none) := by show _ = _; rw [HDC.out, if_neg HNO.out, if_neg (fun h => hb h.1)]
        have hbb : (b.k == 2) = false := by simpa using hb
        clear hb
        go_wp2_with (refine wpList_store_va rfl rfl (.tmp 4) (.tmp 57) rfl g4 rfl Key.nul rfl h4 ?_; intro Wa hba hga)
        exact ret_ag rfl rfl rfl rfl rfl rfl hba.va ⟨by rw [HF.out]; rfl, below_of_grown HBX.out hga (by have := HG4.out; omega) HBX.out.size⟩
end Go.Proofs.YtjdffhonljhpcaaGreat
end

