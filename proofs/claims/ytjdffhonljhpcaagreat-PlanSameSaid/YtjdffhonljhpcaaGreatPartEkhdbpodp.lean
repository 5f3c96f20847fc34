/-
  Texts of a proof, one behind the other (each with its own head).
-/
import Derived.Test.YtjdffhonljhpcaaGreatPartDhofpdche
import Derived.Maps.Own
import Derived.Maps.OwnSet
import Derived.Maps.Views
import Derived.ChangeKeysEq
section
/-
  The contracts of a planner's found and col.
-/
namespace Go.Proofs.YtjdffhonljhpcaaGreat
set_option linter.unusedSimpArgs false
set_option linter.unusedVariables false
open Go.RowKit

set_option maxRecDepth 20000 in
set_option maxHeartbeats 4000000 in
theorem plfound_any (w : World) (g : Nat) (X : Wp) (hb : Blk w g 61 X.cells) (hX : WpIn w X) (f : Nat) (hf : f < X.p.x.T.length) (A : Option Addr) (c : Nat) (L : List Int) (hL : ERow eInt w A L) (hl : L.length ≤ 2000) (hw : ∀ i ∈ L, i < (X.p.x.wh.length : Int)) :
    Calls Tryz.prog 54 #[.pointer (some ⟨g, 0, none⟩), .int .i64 f, .slice A L.length c] w (RetI w (Pn.found X.p.x f L)) := by
  have HX := Lib.hid hX
  have HB := Lib.hid hb
  have HL := Lib.hid hL
  have HW := Lib.hid hw
  have hfew := hX.few
  have hfB : f < X.p.x.B.length := by rw [hX.s.bl]; exact hf
  have hfi : (f : Int) < (X.p.x.B.length : Int) := by omega
  obtain ⟨hb0, hbl2⟩ := Pn.rowsAt_lt hX.s hX.rl hf
  have hbi : Pn.b X.p.x f < (X.p.x.rows.length : Int) := by omega
  obtain ⟨D, hD⟩ : ∃ D, Pn.found X.p.x f L = D := ⟨_, rfl⟩
  have HD : Hid (max 1 ((L.drop 0).foldl (Pn.foundF X.p.x) (Pn.fit (Pn.rowsAt X.p.x f))) = D) := hD
  rw [hD]
  obtain ⟨bb, oo, ha, -, hc0⟩ := int_at (hX.q.b.below (Below.refl w.heap.size w).drewR) hfB
  have hc : w.drew.cell? ⟨bb, oo + f, none⟩ = some (.int .i64 (Pn.b X.p.x f)) := by rw [← Pn.b_get hfB]; exact hc0
  obtain ⟨br, or_, har, -, hr0⟩ := i64_at (hX.rc.r.below (Below.refl w.heap.size w).drewR) hbl2
  have hr : w.drew.cell? ⟨br, or_ + (Pn.b X.p.x f).toNat, none⟩ = some (.int .i64 (Pn.rowsAt X.p.x f)) := by rw [← Pn.rowsAt_get hbl2]; exact hr0
  have HBD : Hid (Below w.heap.size w w.drew) := (Below.refl _ _).drewR
  obtain ⟨-, -, c11, -⟩ := Blk.wt hb.drew
  obtain ⟨c1, -⟩ := Blk.wq hb.drew
  rw [ha] at c1
  rw [har] at c11
  clear hX hb hL hw hD ha har hc0 hr0 hbl2
  go_enter Tryz.func54, Tryz.ntmps54
  go_upto_region 1 with fail
  refine wp_region_plan (.take 0 (.take 1 (.take 2 (.take 3 (.take 4 (.take 5 (.take 6 (.take 7 (.take 8 (.take 9 (.take 10 (.take 11 (.take 12 (.take 13 (.run 14 [] (.take 15 .fin)))))))))))))))) (by kernel_rfl) (by kernel_rfl) (by kernel_rfl) (by kernel_rfl) ?_
  repeat' (first | (refine hZ _ _ ?_; clear hZ) | (refine hZ _ ?_; clear hZ) | (refine hZ ?_; clear hZ) | rw [again_nil] | rw [walk_fin] | ((first | rw [walk_take] | rw [walk_run] | rw [again_cons]); intro Z hZ; simp only [sel, List.getElem?_toArray, List.getElem?_cons_zero, List.getElem?_cons_succ]; go_wp2_with (fail)))
  refine (cfit_any w.drew _).mono ?_
  rintro e w1 ⟨rfl, rfl⟩
  go_wp2_with fail
  repeat' (first | (refine hZ _ _ ?_; clear hZ) | (refine hZ _ ?_; clear hZ) | (refine hZ ?_; clear hZ) | rw [again_nil] | rw [walk_fin] | ((first | rw [walk_take] | rw [walk_run] | rw [again_cons]); intro Z hZ; simp only [sel, List.getElem?_toArray, List.getElem?_cons_zero, List.getElem?_cons_succ]; go_wp2_with (fail)))
  go_upto_region 3 with fail
  generalize Pn.fit (Pn.rowsAt X.p.x f) = n0 at HD ⊢
  clear c1 c11 hc hr
  generalize w.drew = W1 at HBD ⊢
  go_loopw [7, 27] (fun nv iv wr => ∃ (i : Nat) (n : Int), i ≤ L.length ∧ iv = .int .i64 (i : Int) ∧ nv = .int .i64 n ∧ Hid (max 1 ((L.drop i).foldl (Pn.foundF X.p.x) n) = D ∧ Below w.heap.size w wr)) (fun _ iv _ => L.length - (intOf iv).toNat)
  case atStart => exact ⟨0, n0, Nat.zero_le _, by go_num, rfl, HD.out, HBD.out⟩
  case round =>
    obtain ⟨i, n, hi, rfl, rfl, HJ⟩ := hrel
    have HE := Lib.hid HJ.out.1
    have HBW := Lib.hid HJ.out.2
    clear HJ
    by_cases hlt : i < L.length
    · have hii : (i : Int) < (L.length : Int) := by omega
      obtain ⟨ba, oa, haa, -, q0⟩ := int_at (HL.out.below HBW.out) hlt
      obtain ⟨z, hz⟩ : ∃ z, L[i] = z := ⟨_, rfl⟩
      have hzw := HW.out z (by rw [← hz]; exact List.getElem_mem hlt)
      have HSG : Hid (max 1 ((L.drop (i + 1)).foldl (Pn.foundF X.p.x) (Pn.foundF X.p.x n z)) = D) := by
        show _ = _
        rw [← HE.out, Pn.fold_drop _ _ _ hlt, hz]
      rw [hz] at q0
      rw [haa]
      clear haa hz
      by_cases hz0 : 0 ≤ z
      · obtain ⟨j, rfl⟩ : ∃ j : Nat, z = (j : Int) := ⟨z.toNat, by omega⟩
        have hj : j < X.p.x.wh.length := by omega
        obtain ⟨y, hy⟩ : ∃ y, X.p.x.wh[j] = y := ⟨_, rfl⟩
        have HYE := Lib.hid hy
        have HNI := Lib.hid (HX.out.q.nin y (by rw [← hy]; exact List.getElem_mem hj))
        have HS3 : Hid (max 1 ((L.drop (i + 1)).foldl (Pn.foundF X.p.x) (Pn.part n (Ev.guessN y X.p.x.rows X.p.x.cols))) = D) := by
          show _ = _
          rw [← HSG.out]
          unfold Pn.foundF
          rw [if_pos (show 0 ≤ (j : Int) by omega)]
          unfold Pn.guess
          rw [Int.toNat_natCast]
          congr 2
          simp [List.getD, hj, hy]
        have HBD2 : Hid (Below w.heap.size w wr.drew) := HBW.out.drewR
        obtain ⟨bw, ow, haw, -, -⟩ := HX.out.q.wn.at_ hj
        have HIW : Hid (ERow eNd wr.drew (some ⟨bw, ow, none⟩) X.p.x.wh) := by show ERow _ _ _ _; rw [← haw]; exact HX.out.q.wn.below HBD2.out
        obtain ⟨-, -, c11, c12⟩ := Blk.wt (HB.out.below HBD2.out)
        obtain ⟨-, c3⟩ := Blk.wq (HB.out.below HBD2.out)
        rw [haw] at c3
        clear haw hy HSG
        go_upto_region 6 with fail
        clear q0
        refine wp_region_plan (.take 0 (.take 1 (.take 2 (.take 3 (.take 4 (.take 5 (.take 6 (.take 7 (.take 8 (.take 9 (.take 10 (.take 11 (.take 12 (.take 13 (.take 14 (.take 15 (.take 16 (.run 17 [0] (.run 18 [] (.take 19 .fin)))))))))))))))))))) (by kernel_rfl) (by kernel_rfl) (by kernel_rfl) (by kernel_rfl) ?_
        repeat' (first | (refine hZ _ _ ?_; clear hZ) | (refine hZ _ ?_; clear hZ) | (refine hZ ?_; clear hZ) | rw [again_nil] | rw [walk_fin] | ((first | rw [walk_take] | rw [walk_run] | rw [again_cons]); intro Z hZ; simp only [sel, List.getElem?_toArray, List.getElem?_cons_zero, List.getElem?_cons_succ]; go_wp2_with (refine wpList_load_nd_is rfl (.tmp 40) rfl HIW.out hj y HYE.out rfl ?_)))
        refine (guess_any wr.drew X.ra X.ca X.rc X.cc X.p.x.rows X.p.x.cols (HX.out.rc.below HBD2.out) y (nd_below15 HNI.out HBD2.out)).mono ?_
        rintro e W8 ⟨rfl, hB8⟩
        have HB8 := Lib.hid (HBD2.out.then hB8)
        replace HIW : Hid (ERow eNd W8 (some ⟨bw, ow, none⟩) X.p.x.wh) := HIW.out.below hB8
        replace c3 := cell_later hB8 c3
        replace c11 := cell_later hB8 c11
        replace c12 := cell_later hB8 c12
        clear hB8
        go_wp2_with fail
        repeat' (first | (refine hZ _ _ ?_; clear hZ) | (refine hZ _ ?_; clear hZ) | (refine hZ ?_; clear hZ) | rw [again_nil] | rw [walk_fin] | ((first | rw [walk_take] | rw [walk_run] | rw [again_cons]); intro Z hZ; simp only [sel, List.getElem?_toArray, List.getElem?_cons_zero, List.getElem?_cons_succ]; go_wp2_with (refine wpList_load_nd_is rfl (.tmp 40) rfl HIW.out hj y HYE.out rfl ?_)))
        refine (cpart_any W8 n _).mono ?_
        rintro e w9 ⟨rfl, rfl⟩
        go_wp2_with fail
        repeat' (first | (refine hZ _ _ ?_; clear hZ) | (refine hZ _ ?_; clear hZ) | (refine hZ ?_; clear hZ) | rw [again_nil] | rw [walk_fin] | ((first | rw [walk_take] | rw [walk_run] | rw [again_cons]); intro Z hZ; simp only [sel, List.getElem?_toArray, List.getElem?_cons_zero, List.getElem?_cons_succ]; go_wp2_with (refine wpList_load_nd_is rfl (.tmp 40) rfl HIW.out hj y HYE.out rfl ?_)))
        go_wp2_with fail
        go_roundw
        case rel => exact ⟨i + 1, _, by omega, by go_num, rfl, HS3.out, HB8.out⟩
        case measure => simp [intOf]; omega
      · have HS3 : Hid (max 1 ((L.drop (i + 1)).foldl (Pn.foundF X.p.x) n) = D) := by show _ = _; rw [← HSG.out]; unfold Pn.foundF; rw [if_neg hz0]
        go_wp2_with fail
        go_roundw
        case rel => exact ⟨i + 1, n, by omega, by go_num, rfl, HS3.out, HBW.out⟩
        case measure => simp [intOf]; omega
    · have hii : ¬ (i : Int) < (L.length : Int) := by omega
      have HF : Hid (D = max 1 n) := by show _ = _; rw [← HE.out, List.drop_eq_nil_of_le (by omega)]; rfl
      go_wp2_with fail
      go_ret
      exact ⟨by rw [HF.out]; rfl, HBW.out⟩
set_option maxRecDepth 20000 in
set_option maxHeartbeats 1000000 in
theorem plcol_any (w : World) (g : Nat) (t : TypeId) (p : Qp) (da : Option Addr) (dc : Nat) (r : List Value) (hb : Blk w g t (p.cells ++ .slice da p.x.defs.length dc :: r)) (hp : QpIn w p) (hs : Pn.Sh p.x) (hd : DfsIn w da p.x.defs) (f i j : Nat) (hf : f < p.x.T.length) (hi : i < p.x.defs.length) (hj : j < p.x.defs[i].cols.length)
    (h0 : 0 ≤ p.x.defs[i].cols[j]) (h1 : p.x.defs[i].cols[j] ≤ 24) :
    Calls Tryz.prog 61 #[.pointer (some ⟨g, 0, none⟩), .int .i64 f, .int .i64 i, .int .i64 j] w fun e w' => e = .returned (.int .i64 (Pn.b p.x f + p.x.defs[i].cols[j])) ∧ Below w.heap.size w w' := by
  have hl := hs.lt f hf
  have hfB : f < p.x.B.length := by rw [hs.bl]; exact hf
  have hf4 := hs.t4
  have hfi : (f : Int) < (p.x.B.length : Int) := by omega
  have hdl := hd.len
  have hii : (i : Int) < (p.x.defs.length : Int) := by omega
  obtain ⟨d, hd0⟩ : ∃ d, p.x.defs[i] = d := ⟨_, rfl⟩
  have hdm : d ∈ p.x.defs := by rw [← hd0]; exact List.getElem_mem hi
  have hcl := hd.cl d hdm
  obtain ⟨bb, oo, ha, -, hc0⟩ := int_at (hp.b.below (Below.refl w.heap.size w).drewR) hfB
  have hc : w.drew.cell? ⟨bb, oo + f, none⟩ = some (.int .i64 (Pn.b p.x f)) := by rw [← Pn.b_get hfB]; exact hc0
  obtain ⟨bd, od, had, -, -, q1⟩ := df_at (hd.r.below (Below.refl w.heap.size w).drewR) hi
  simp only [hd0] at hj h0 h1 q1 ⊢
  have hjj : (j : Int) < (d.cols.length : Int) := by omega
  obtain ⟨bc, oc, hac, -, q2⟩ := int_at ((hd.cr d hdm).below (Below.refl w.heap.size w).drewR) hj
  obtain ⟨c1, -⟩ := Blk.wq hb.drew
  have c9 := Blk.wd hb.drew
  rw [ha] at c1
  rw [had] at c9
  rw [hac] at q1
  generalize d.cols[j] = v at h0 h1 q2 ⊢
  clear hp hs hd ha had hac hc0 hb hdm hd0
  go_enter Tryz.func61, Tryz.ntmps61
  go_upto_region 1 with fail
  refine wp_region_plan (.take 0 (.take 1 (.take 2 (.take 3 (.take 4 (.take 5 (.take 6 (.take 7 (.take 8 (.take 9 (.take 10 (.take 11 (.take 12 (.take 13 (.take 14 (.take 15 (.take 16 (.take 17 (.take 18 (.take 19 (.take 20 .fin))))))))))))))))))))) (by kernel_rfl) (by kernel_rfl) (by kernel_rfl) (by kernel_rfl) ?_
  repeat' (first | (refine hZ _ _ ?_; clear hZ) | (refine hZ _ ?_; clear hZ) | (refine hZ ?_; clear hZ) | rw [again_nil] | rw [walk_fin] | ((first | rw [walk_take] | rw [walk_run] | rw [again_cons]); intro Z hZ; simp only [sel, List.getElem?_toArray, List.getElem?_cons_zero, List.getElem?_cons_succ]; go_wp2_with (fail)))
  go_wp2_with fail
  go_ret
  exact ⟨rfl, (Below.refl _ _).drewR⟩
end Go.Proofs.YtjdffhonljhpcaaGreat
end

section
/-
  Rows of texts; the contracts of slices.Contains at them.
-/
namespace Go.Proofs.YtjdffhonljhpcaaGreat
set_option linter.unusedSimpArgs false
set_option linter.unusedVariables false
open Go.RowKit

/-- Texts. -/
def eStr : Elem (List UInt8) where
  e := 9
  t := 113
  sz := 1
  bytes := 16
  zero := .string ByteArray.empty
  code := fun n => [txt n]
  pos := by decide
  few := by decide
  len := fun _ => rfl
  one := by
    intro x u hu
    simp at hu
    subst hu
    rfl
  zsz := rfl
  info := by kernel_rfl
  under := Tryz.underlying113
theorem str_at {w : World} {A : Option Addr} {L : List (List UInt8)} (h : ERow eStr w A L) {i : Nat} (hi : i < L.length) : ∃ b o, A = some ⟨b, o, none⟩ ∧ b < w.heap.size ∧ w.cell? ⟨b, o + i, none⟩ = some (txt L[i]) := by
  obtain ⟨b, o, e, hb, hc⟩ := h.at_ hi
  have := hc 0 _ rfl
  simp only [eStr, Nat.mul_one, Nat.add_zero] at this
  exact ⟨b, o, e, hb, this⟩
theorem strs_drop (L : List (List UInt8)) (x : List UInt8) (i : Nat) (hi : i < L.length) : (L.drop i).contains x = (x == L[i] || (L.drop (i + 1)).contains x) := by
  rw [List.drop_eq_getElem_cons hi, List.contains_cons]
/-- A place, below 0 if there is none; the world is as it was. -/
def RetIs (w : World) (b : Bool) (e : Ending) (w' : World) : Prop := ∃ k : Int, e = .returned (.int .i64 k) ∧ decide (0 ≤ k) = b ∧ w = w'
set_option maxRecDepth 20000 in
set_option maxHeartbeats 1000000 in
theorem sindex_any (w : World) (A : Option Addr) (c : Nat) (L : List (List UInt8)) (hL : ERow eStr w A L) (hl : L.length ≤ 1000000) (x : List UInt8) :
    Calls Tryz.prog 87 #[.slice A L.length c, txt x] w (RetIs w (L.contains x)) := by
  have HL := Lib.hid hL
  clear hL
  obtain ⟨C, hC⟩ : ∃ C, L.contains x = C := ⟨_, rfl⟩
  have HC := Lib.hid hC
  rw [hC]
  clear hC
  have keq := run_str_eq
  have geq := eqg_eq
  go_enter Tryz.func87, Tryz.ntmps87
  go_wp2_with fail
  go_loopw [8] (fun iv wr => ∃ i : Nat, i ≤ L.length ∧ iv = .int .i64 (i : Int) ∧ Hid ((L.drop i).contains x = C ∧ w = wr)) (fun iv _ => L.length - (intOf iv).toNat)
  case atStart => exact ⟨0, Nat.zero_le _, by go_num, HC.out, rfl⟩
  case round =>
    obtain ⟨i, hi, rfl, HJ⟩ := hrel
    obtain ⟨hd, rfl⟩ := HJ.out
    have HD := Lib.hid hd
    clear HJ hd
    by_cases hlt : i < L.length
    · have hii : (i : Int) < (L.length : Int) := by omega
      obtain ⟨bb, oo, ha, -, hc⟩ := str_at HL.out hlt
      have HX : Hid ((x == L[i] || (L.drop (i + 1)).contains x) = C) := by show _ = _; rw [← strs_drop L x i hlt]; exact HD.out
      rw [ha]
      clear ha
      generalize L[i] = y at hc HX
      cases hxy : x == y with
      | true =>
        have HR : Hid (true = C) := by show _ = _; rw [← HX.out, hxy]; rfl
        go_wp2_with fail
        go_ret
        exact ⟨i, rfl, by rw [← HR.out]; exact decide_eq_true (by omega), rfl⟩
      | false =>
        have HR : Hid ((L.drop (i + 1)).contains x = C) := by show _ = _; rw [← HX.out, hxy]; rfl
        go_wp2_with fail
        go_roundw
        case rel => exact ⟨i + 1, by omega, by go_num, HR.out, trivial⟩
        case measure => simp [intOf]; omega
    · have hii : ¬ (i : Int) < (L.length : Int) := by omega
      have HR : Hid (false = C) := by
        show _ = _
        rw [← HD.out, List.drop_eq_nil_of_le (by omega)]
        rfl
      go_wp2_with fail
      go_ret
      exact ⟨-1, rfl, HR.out, rfl⟩
set_option maxRecDepth 20000 in
theorem scontains_any (w : World) (A : Option Addr) (c : Nat) (L : List (List UInt8)) (hL : ERow eStr w A L) (hl : L.length ≤ 1000000) (x : List UInt8) :
    Calls Tryz.prog 77 #[.slice A L.length c, txt x] w fun e w' => e = .returned (.bool (L.contains x)) ∧ w = w' := by
  have HL := Lib.hid hL
  clear hL
  obtain ⟨C, hC⟩ : ∃ C, L.contains x = C := ⟨_, rfl⟩
  have HC := Lib.hid (sindex_any w A c L HL.out hl x)
  rw [hC] at HC ⊢
  clear hC
  go_enter Tryz.func77, Tryz.ntmps77
  go_wp2_with fail
  refine HC.out.mono ?_
  rintro e W2 ⟨k, rfl, hk, rfl⟩
  have HK := Lib.hid hk
  clear hk
  go_wp2_with fail
  go_ret
  exact ⟨by rw [← HK.out]; rfl, rfl⟩
end Go.Proofs.YtjdffhonljhpcaaGreat
end

section
/-
  The contract of plan's against.
-/
namespace Go.Proofs.YtjdffhonljhpcaaGreat
set_option linter.unusedSimpArgs false
set_option linter.unusedVariables false
open Go.RowKit

namespace Pn
/-- Does a part of a comparison, from the i-th on, hold the column so? -/
def agF (x : PX) (y z : Nd) (op : List UInt8) (at_ : Int) (given : Nat) (ops : List (List UInt8)) (i : Nat) : Bool :=
  if i = 0 then agHit x y z op at_ given ops || agHit x z y (Ev.turnS op) at_ given ops else if i = 1 then agHit x z y (Ev.turnS op) at_ given ops else false
theorem agst_no {x : PX} {n : Nd} {at_ : Int} {given : Nat} {ops : List (List UInt8)} (h : n.k ≠ 7 ∨ n.args.length ≠ 2) : agst x n at_ given ops = false := by
  unfold agst
  by_cases hk : n.k = 7
  · have hl : n.args.length ≠ 2 := h.resolve_left (fun e => e hk)
    match n.args, hl with
    | [], _ => simp
    | [_], _ => simp
    | [_, _], h => exact absurd rfl h
    | _ :: _ :: _ :: _, _ => simp
  · rw [beq_eq_false_iff_ne.2 hk, Bool.false_and]
theorem agst_two {x : PX} {n y z : Nd} {at_ : Int} {given : Nat} {ops : List (List UInt8)} (hk : n.k = 7) (h : n.args = [y, z]) : agst x n at_ given ops = agF x y z n.op at_ given ops 0 := by
  unfold agst
  rw [hk, h]
  rfl
end Pn
set_option maxRecDepth 20000 in
set_option maxHeartbeats 8000000 in
theorem plagst_any (w : World) (p : Qp) (hp : QpIn w p) (hB4 : p.x.B.length ≤ 4) (n : Nd) (hn : NodeIn w n) (at_ : Int) (given : Nat) (hg16 : given < 16) (A : Option Addr) (c : Nat) (ops : List (List UInt8)) (hO : ERow eStr w A ops) (hl : ops.length ≤ 1000) :
    Calls Tryz.prog 62 #[p.v, n.v, .int .i64 at_, .int .u8 given, .slice A ops.length c] w (RetBo w (Pn.agst p.x n at_ given ops)) := by
  have HP := Lib.hid hp
  have HO := Lib.hid hO
  have hin := hn
  cases hin with
  | mk hr hin hlit hls hk hat hcc hm =>
  have hcm : n.args.length ≤ 9223372036854775807 := by unfold maxLen at hm; omega
  have HR := Lib.hid hr
  have HI := Lib.hid hin
  have HAK := Lib.hid (plasks_any w p hp hB4)
  obtain ⟨D, hD⟩ : ∃ D, Pn.agst p.x n at_ given ops = D := ⟨_, rfl⟩
  have HD := Lib.hid hD
  rw [hD]
  clear hp hO hr hin hlit hls hk hat hcc hm hD hn
  go_enter Tryz.func62, Tryz.ntmps62
  go_upto_region 1 with (first | (refine wpList_box_qp rfl (.tmp 0) rfl p rfl ?_; intro W1 hb1 hz1 hB1) | (refine wpList_box_nd rfl (.tmp 1) rfl n rfl ?_; intro W2 hb2 hz2 hB2))
  have hb12 := hb1.below hB2
  have HB2 := Lib.hid (hB1.then hB2)
  obtain ⟨g5, hg5⟩ : ∃ g, w.heap.size = g := ⟨_, rfl⟩
  have HQ : Hid (Blk W2 g5 36 p.cells) := by show Blk _ _ _ _; rw [← hg5]; exact hb12
  rw [hg5]
  clear hb1 hB1 hB2 hz2 hz1 hb12 hg5
  generalize W1.heap.size = g6 at hb2 ⊢
  have HNB := Lib.hid hb2
  obtain ⟨c0, -, -, -, -, -, -, -, -, c9, -⟩ := Blk.c10 hb2
  clear hb2
  by_cases hk : n.k = 7
  · have hkb : (n.k != 7) = false := by simp [hk]
    by_cases h2 : n.args.length = 2
    · have h2b : ((n.args.length : Int) != 2) = false := by simp [h2]
      obtain ⟨a, b, hab⟩ : ∃ a b, n.args = [a, b] := by
        match n.args, h2 with
        | [a, b], _ => exact ⟨a, b, rfl⟩
      have HE0 : Hid (Pn.agF p.x a b n.op at_ given ops 0 = D) := by show _ = _; rw [← HD.out, Pn.agst_two hk hab]
      have HAB := Lib.hid hab
      obtain ⟨op, hop⟩ : ∃ op, n.op = op := ⟨_, rfl⟩
      have HOP := Lib.hid hop
      rw [hop] at HE0
      clear hk h2 hab hop HD
      go_upto_region 4 with fail
      clear c0 c9 hkb h2b
      go_loopw [28] (fun iv wr => ∃ i : Nat, i ≤ 2 ∧ iv = .int .i64 (i : Int) ∧ Hid (Pn.agF p.x a b op at_ given ops i = D ∧ Below W2.heap.size W2 wr)) (fun iv _ => 2 - (intOf iv).toNat)
      case atStart => exact ⟨0, by omega, by go_num, HE0.out, Below.refl _ _⟩
      case round =>
        obtain ⟨i, hi, rfl, HJ⟩ := hrel
        have HE := Lib.hid HJ.out.1
        have HBW := Lib.hid HJ.out.2
        clear HJ
        have HLEN : Hid (n.args.length = 2) := by show _ = _; rw [HAB.out]; rfl
        have hi3 : i = 0 ∨ i = 1 ∨ i = 2 := by omega
        rcases hi3 with rfl | rfl | rfl
        · have hj : 0 < n.args.length := by have := HLEN.out; omega
          have hjz : 1 - 0 < n.args.length := by have := HLEN.out; omega
          have hji : (0 : Int) < (n.args.length : Int) := by omega
          have hjzi : (1 - 0 : Int) < (n.args.length : Int) := by omega
          obtain ⟨bb, oo, haa, -, -⟩ := HR.out.at_ hj
          have HIW : Hid (∀ W, Below W2.heap.size W2 W → ERow eNd W (some ⟨bb, oo, none⟩) n.args) := fun W hW => by rw [← haa]; exact HR.out.below (HB2.out.then hW)
          have HGX : Hid (n.args[0] = a) := by show _ = _; simp [HAB.out]
          have HGZ : Hid (n.args[1 - 0] = b) := by show _ = _; simp [HAB.out]
          have HZI := Lib.hid (HI.out b (by rw [HAB.out]; simp))
          have HHB : Hid (∀ W, Below W2.heap.size W2 W → W.cell? ⟨g6, 1, none⟩ = some (txt op) ∧ W.cell? ⟨g6, 9, none⟩ = some (.slice (some ⟨bb, oo, none⟩) n.args.length n.c)) := fun W hW => by
            obtain ⟨-, q1, -, -, -, -, -, -, -, q9, -⟩ := Blk.c10 (HNB.out.below hW)
            rw [HOP.out] at q1
            rw [haa] at q9
            exact ⟨q1, q9⟩
          rw [haa]
          clear haa
          go_upto_region 6 with (first | (refine wpList_load_nd_is rfl (.tmp 31) rfl (HIW.out _ HBW.out) hj a HGX.out rfl ?_) | (refine wpList_alloc_nd rfl rfl ?_; intro W6 hb6 hz6 hB6) | (refine wpList_store_nd rfl rfl (.tmp 12) (.tmp 32) rfl wr.heap.size rfl a rfl hb6 ?_; intro W7 hb7 hg7))
          have HB7 := Lib.hid (below_of_grown (HBW.out.then hB6) hg7 HBW.out.size (Nat.le_trans HBW.out.size hB6.size))
          clear hb6 hz6 hB6 hg7
          generalize wr.heap.size = g12 at hb7 ⊢
          obtain ⟨q1, -⟩ := HHB.out W7 HB7.out
          have HSTEP : Hid ((Pn.agHit p.x a b op at_ given ops || Pn.agF p.x a b op at_ given ops 1) = D) := by show _ = _; rw [← HE.out]; rfl
          go_upto_region 9 with fail
          clear q1
          have HBD : Hid (Below W2.heap.size W2 W7.drew) := HB7.out.drewR
          obtain ⟨-, q9⟩ := HHB.out W7.drew HBD.out
          have hqd := HQ.out.below HBD.out
          have HIR := Lib.hid (HIW.out W7.drew HBD.out)
          refine wp_region_plan (.take 0 (.take 1 (.take 2 (.take 3 (.take 4 (.take 5 (.take 6 (.run 7 [] (.take 8 (.take 9 (.take 10 (.take 11 (.take 12 .fin))))))))))))) (by kernel_rfl) (by kernel_rfl) (by kernel_rfl) (by kernel_rfl) ?_
          repeat' (first | (refine hZ _ _ ?_; clear hZ) | (refine hZ _ ?_; clear hZ) | (refine hZ ?_; clear hZ) | rw [again_nil] | rw [walk_fin] | ((first | rw [walk_take] | rw [walk_run] | rw [again_cons]); intro Z hZ; simp only [sel, List.getElem?_toArray, List.getElem?_cons_zero, List.getElem?_cons_succ]; go_wp2_with (first | (refine wpList_load_qp0 rfl (.tmp 5) rfl g5 rfl hqd ?_) | (refine wpList_load_nd_is rfl (.tmp 45) rfl HIR.out hjz b HGZ.out rfl ?_))))
          refine (HAK.out b HZI.out W7.drew (HB2.out.then HBD.out)).mono ?_
          rintro e W9 ⟨rfl, hB9⟩
          have HB9 := Lib.hid (HBD.out.then hB9)
          have hx9 := hb7.drew.below hB9
          obtain ⟨am, ham⟩ : ∃ am, (Pn.asks p.x b).1 = am := ⟨_, rfl⟩
          obtain ⟨ao, hao⟩ : ∃ ao, (Pn.asks p.x b).2 = ao := ⟨_, rfl⟩
          have HAM := Lib.hid ham
          have HAO := Lib.hid hao
          have hlt16 := Pn.asks_lt hB4 b
          rw [ham, hao]
          rw [ham] at hlt16
          clear ham hao
          have ham := hlt16
          clear hlt16 hB9 hqd q9 HIR hb7
          go_wp2_with fail
          repeat' (first | (refine hZ _ _ ?_; clear hZ) | (refine hZ _ ?_; clear hZ) | (refine hZ ?_; clear hZ) | rw [again_nil] | rw [walk_fin] | ((first | rw [walk_take] | rw [walk_run] | rw [again_cons]); intro Z hZ; simp only [sel, List.getElem?_toArray, List.getElem?_cons_zero, List.getElem?_cons_succ]; go_wp2_with (fail)))
          -- in world W9 behind asks: the checks. 1: the next index; a the part, b the other; op: its sign
          obtain ⟨x0, -, -, -, -, -, x6, -, -, -, -⟩ := Blk.c10 hx9
          by_cases h2 : a.k = 2
          · have h2b : (a.k == 2) = true := by simp [h2]
            by_cases hat : a.at_ = at_
            · have hab : (a.at_ == at_) = true := by simp [hat]
              cases hao : ao with
              | true =>
                have hao2 : (Pn.asks p.x b).2 = true := HAO.out.trans hao
                subst hao
                clear h2 hat
                have HN2 : Hid (Pn.agF p.x a b op at_ given ops 1 = D) := by
                  show _ = _
                  rw [← HSTEP.out, show Pn.agHit p.x a b (op) at_ given ops = false by unfold Pn.agHit; simp [hao2]]
                  rfl
                go_wp2_with fail
                go_roundw
                case rel => exact ⟨1, by omega, by go_num, HN2.out, HB9.out⟩
                case measure => simp [intOf]
              | false =>
                have hao2 : (Pn.asks p.x b).2 = false := HAO.out.trans hao
                subst hao
                cases hsub : Pn.sub am given with
                | false =>
                  have hs2 : Pn.sub (Pn.asks p.x b).1 given = false := by rw [HAM.out]; exact hsub
                  have ha8 : (bits BinOp.andNot IntKind.u8 (am : Int) (given : Int) == 0) = false := by rw [← hsub]; exact andNot8 am ham given hg16
                  clear h2 hat hsub
                  have HN2 : Hid (Pn.agF p.x a b op at_ given ops 1 = D) := by
                    show _ = _
                    rw [← HSTEP.out, show Pn.agHit p.x a b (op) at_ given ops = false by unfold Pn.agHit; simp [hs2]]
                    rfl
                  go_wp2_with fail
                  go_roundw
                  case rel => exact ⟨1, by omega, by go_num, HN2.out, HB9.out⟩
                  case measure => simp [intOf]
                | true =>
                  have hs2 : Pn.sub (Pn.asks p.x b).1 given = true := by rw [HAM.out]; exact hsub
                  have ha8 : (bits BinOp.andNot IntKind.u8 (am : Int) (given : Int) == 0) = true := by rw [← hsub]; exact andNot8 am ham given hg16
                  have HSC := Lib.hid (scontains_any W9 A c ops (HO.out.below (HB2.out.then HB9.out)) (by omega) (op))
                  have HHIT : Hid (Pn.agHit p.x a b (op) at_ given ops = ops.contains (op)) := by show _ = _; unfold Pn.agHit; simp [h2, hat, hao2, hs2]
                  clear h2 hat hsub
                  go_wp2_with fail
                  refine HSC.out.mono ?_
                  rintro e w10 ⟨rfl, rfl⟩
                  obtain ⟨C, hC⟩ : ∃ C, ops.contains (op) = C := ⟨_, rfl⟩
                  have HC := Lib.hid hC
                  rw [hC]
                  clear hC HSC
                  cases C with
                  | true =>
                    have HF : Hid (D = true) := by show _ = _; rw [← HSTEP.out, HHIT.out, HC.out]; rfl
                    go_wp2_with fail
                    go_ret
                    exact ⟨by rw [HF.out]; rfl, HB2.out.then HB9.out⟩
                  | false =>
                    have HN2 : Hid (Pn.agF p.x a b op at_ given ops 1 = D) := by show _ = _; rw [← HSTEP.out, HHIT.out, HC.out]; rfl
                    go_wp2_with fail
                    go_roundw
                    case rel => exact ⟨1, by omega, by go_num, HN2.out, HB9.out⟩
                    case measure => simp [intOf]
            · have hab : (a.at_ == at_) = false := by simp [hat]
              have HN2 : Hid (Pn.agF p.x a b op at_ given ops 1 = D) := by
                show _ = _
                rw [← HSTEP.out, show Pn.agHit p.x a b (op) at_ given ops = false by unfold Pn.agHit; simp [hat]]
                rfl
              go_wp2_with fail
              go_roundw
              case rel => exact ⟨1, by omega, by go_num, HN2.out, HB9.out⟩
              case measure => simp [intOf]
          · have h2b : (a.k == 2) = false := by simp [h2]
            have HN2 : Hid (Pn.agF p.x a b op at_ given ops 1 = D) := by
              show _ = _
              rw [← HSTEP.out, show Pn.agHit p.x a b (op) at_ given ops = false by unfold Pn.agHit; simp [h2]]
              rfl
            go_wp2_with fail
            go_roundw
            case rel => exact ⟨1, by omega, by go_num, HN2.out, HB9.out⟩
            case measure => simp [intOf]
        · have hj : 1 < n.args.length := by have := HLEN.out; omega
          have hjz : 1 - 1 < n.args.length := by have := HLEN.out; omega
          have hji : (1 : Int) < (n.args.length : Int) := by omega
          have hjzi : (1 - 1 : Int) < (n.args.length : Int) := by omega
          obtain ⟨bb, oo, haa, -, -⟩ := HR.out.at_ hj
          have HIW : Hid (∀ W, Below W2.heap.size W2 W → ERow eNd W (some ⟨bb, oo, none⟩) n.args) := fun W hW => by rw [← haa]; exact HR.out.below (HB2.out.then hW)
          have HGX : Hid (n.args[1] = b) := by show _ = _; simp [HAB.out]
          have HGZ : Hid (n.args[1 - 1] = a) := by show _ = _; simp [HAB.out]
          have HZI := Lib.hid (HI.out a (by rw [HAB.out]; simp))
          have HHB : Hid (∀ W, Below W2.heap.size W2 W → W.cell? ⟨g6, 1, none⟩ = some (txt op) ∧ W.cell? ⟨g6, 9, none⟩ = some (.slice (some ⟨bb, oo, none⟩) n.args.length n.c)) := fun W hW => by
            obtain ⟨-, q1, -, -, -, -, -, -, -, q9, -⟩ := Blk.c10 (HNB.out.below hW)
            rw [HOP.out] at q1
            rw [haa] at q9
            exact ⟨q1, q9⟩
          rw [haa]
          clear haa
          go_upto_region 6 with (first | (refine wpList_load_nd_is rfl (.tmp 31) rfl (HIW.out _ HBW.out) hj b HGX.out rfl ?_) | (refine wpList_alloc_nd rfl rfl ?_; intro W6 hb6 hz6 hB6) | (refine wpList_store_nd rfl rfl (.tmp 12) (.tmp 32) rfl wr.heap.size rfl b rfl hb6 ?_; intro W7 hb7 hg7))
          have HB7 := Lib.hid (below_of_grown (HBW.out.then hB6) hg7 HBW.out.size (Nat.le_trans HBW.out.size hB6.size))
          clear hb6 hz6 hB6 hg7
          generalize wr.heap.size = g12 at hb7 ⊢
          obtain ⟨q1, -⟩ := HHB.out W7 HB7.out
          have HSTEP : Hid ((Pn.agHit p.x b a (Ev.turnS op) at_ given ops || Pn.agF p.x a b op at_ given ops 2) = D) := by show _ = _; rw [← HE.out]; unfold Pn.agF; simp
          go_wp2_with fail
          refine (turn_any W7 op).mono ?_
          rintro e w8 ⟨rfl, hw8⟩
          rw [hw8]
          go_upto_region 9 with fail
          clear q1
          have HBD : Hid (Below W2.heap.size W2 W7.drew) := HB7.out.drewR
          obtain ⟨-, q9⟩ := HHB.out W7.drew HBD.out
          have hqd := HQ.out.below HBD.out
          have HIR := Lib.hid (HIW.out W7.drew HBD.out)
          refine wp_region_plan (.take 0 (.take 1 (.take 2 (.take 3 (.take 4 (.take 5 (.take 6 (.run 7 [] (.take 8 (.take 9 (.take 10 (.take 11 (.take 12 .fin))))))))))))) (by kernel_rfl) (by kernel_rfl) (by kernel_rfl) (by kernel_rfl) ?_
          repeat' (first | (refine hZ _ _ ?_; clear hZ) | (refine hZ _ ?_; clear hZ) | (refine hZ ?_; clear hZ) | rw [again_nil] | rw [walk_fin] | ((first | rw [walk_take] | rw [walk_run] | rw [again_cons]); intro Z hZ; simp only [sel, List.getElem?_toArray, List.getElem?_cons_zero, List.getElem?_cons_succ]; go_wp2_with (first | (refine wpList_load_qp0 rfl (.tmp 5) rfl g5 rfl hqd ?_) | (refine wpList_load_nd_is rfl (.tmp 45) rfl HIR.out hjz a HGZ.out rfl ?_))))
          refine (HAK.out a HZI.out W7.drew (HB2.out.then HBD.out)).mono ?_
          rintro e W9 ⟨rfl, hB9⟩
          have HB9 := Lib.hid (HBD.out.then hB9)
          have hx9 := hb7.drew.below hB9
          obtain ⟨am, ham⟩ : ∃ am, (Pn.asks p.x a).1 = am := ⟨_, rfl⟩
          obtain ⟨ao, hao⟩ : ∃ ao, (Pn.asks p.x a).2 = ao := ⟨_, rfl⟩
          have HAM := Lib.hid ham
          have HAO := Lib.hid hao
          have hlt16 := Pn.asks_lt hB4 a
          rw [ham, hao]
          rw [ham] at hlt16
          clear ham hao
          have ham := hlt16
          clear hlt16 hB9 hqd q9 HIR hb7
          go_wp2_with fail
          repeat' (first | (refine hZ _ _ ?_; clear hZ) | (refine hZ _ ?_; clear hZ) | (refine hZ ?_; clear hZ) | rw [again_nil] | rw [walk_fin] | ((first | rw [walk_take] | rw [walk_run] | rw [again_cons]); intro Z hZ; simp only [sel, List.getElem?_toArray, List.getElem?_cons_zero, List.getElem?_cons_succ]; go_wp2_with (fail)))
          -- in world W9 behind asks: the checks. 2: the next index; b the part, a the other; Ev.turnS op: its sign
          obtain ⟨x0, -, -, -, -, -, x6, -, -, -, -⟩ := Blk.c10 hx9
          by_cases h2 : b.k = 2
          · have h2b : (b.k == 2) = true := by simp [h2]
            by_cases hat : b.at_ = at_
            · have hab : (b.at_ == at_) = true := by simp [hat]
              cases hao : ao with
              | true =>
                have hao2 : (Pn.asks p.x a).2 = true := HAO.out.trans hao
                subst hao
                clear h2 hat
                have HN2 : Hid (Pn.agF p.x a b op at_ given ops 2 = D) := by
                  show _ = _
                  rw [← HSTEP.out, show Pn.agHit p.x b a (Ev.turnS op) at_ given ops = false by unfold Pn.agHit; simp [hao2]]
                  rfl
                go_wp2_with fail
                go_roundw
                case rel => exact ⟨2, by omega, by go_num, HN2.out, HB9.out⟩
                case measure => simp [intOf]
              | false =>
                have hao2 : (Pn.asks p.x a).2 = false := HAO.out.trans hao
                subst hao
                cases hsub : Pn.sub am given with
                | false =>
                  have hs2 : Pn.sub (Pn.asks p.x a).1 given = false := by rw [HAM.out]; exact hsub
                  have ha8 : (bits BinOp.andNot IntKind.u8 (am : Int) (given : Int) == 0) = false := by rw [← hsub]; exact andNot8 am ham given hg16
                  clear h2 hat hsub
                  have HN2 : Hid (Pn.agF p.x a b op at_ given ops 2 = D) := by
                    show _ = _
                    rw [← HSTEP.out, show Pn.agHit p.x b a (Ev.turnS op) at_ given ops = false by unfold Pn.agHit; simp [hs2]]
                    rfl
                  go_wp2_with fail
                  go_roundw
                  case rel => exact ⟨2, by omega, by go_num, HN2.out, HB9.out⟩
                  case measure => simp [intOf]
                | true =>
                  have hs2 : Pn.sub (Pn.asks p.x a).1 given = true := by rw [HAM.out]; exact hsub
                  have ha8 : (bits BinOp.andNot IntKind.u8 (am : Int) (given : Int) == 0) = true := by rw [← hsub]; exact andNot8 am ham given hg16
                  have HSC := Lib.hid (scontains_any W9 A c ops (HO.out.below (HB2.out.then HB9.out)) (by omega) (Ev.turnS op))
                  have HHIT : Hid (Pn.agHit p.x b a (Ev.turnS op) at_ given ops = ops.contains (Ev.turnS op)) := by show _ = _; unfold Pn.agHit; simp [h2, hat, hao2, hs2]
                  clear h2 hat hsub
                  go_wp2_with fail
                  refine HSC.out.mono ?_
                  rintro e w10 ⟨rfl, rfl⟩
                  obtain ⟨C, hC⟩ : ∃ C, ops.contains (Ev.turnS op) = C := ⟨_, rfl⟩
                  have HC := Lib.hid hC
                  rw [hC]
                  clear hC HSC
                  cases C with
                  | true =>
                    have HF : Hid (D = true) := by show _ = _; rw [← HSTEP.out, HHIT.out, HC.out]; rfl
                    go_wp2_with fail
                    go_ret
                    exact ⟨by rw [HF.out]; rfl, HB2.out.then HB9.out⟩
                  | false =>
                    have HN2 : Hid (Pn.agF p.x a b op at_ given ops 2 = D) := by show _ = _; rw [← HSTEP.out, HHIT.out, HC.out]; rfl
                    go_wp2_with fail
                    go_roundw
                    case rel => exact ⟨2, by omega, by go_num, HN2.out, HB9.out⟩
                    case measure => simp [intOf]
            · have hab : (b.at_ == at_) = false := by simp [hat]
              have HN2 : Hid (Pn.agF p.x a b op at_ given ops 2 = D) := by
                show _ = _
                rw [← HSTEP.out, show Pn.agHit p.x b a (Ev.turnS op) at_ given ops = false by unfold Pn.agHit; simp [hat]]
                rfl
              go_wp2_with fail
              go_roundw
              case rel => exact ⟨2, by omega, by go_num, HN2.out, HB9.out⟩
              case measure => simp [intOf]
          · have h2b : (b.k == 2) = false := by simp [h2]
            have HN2 : Hid (Pn.agF p.x a b op at_ given ops 2 = D) := by
              show _ = _
              rw [← HSTEP.out, show Pn.agHit p.x b a (Ev.turnS op) at_ given ops = false by unfold Pn.agHit; simp [h2]]
              rfl
            go_wp2_with fail
            go_roundw
            case rel => exact ⟨2, by omega, by go_num, HN2.out, HB9.out⟩
            case measure => simp [intOf]
        · have HF : Hid (D = false) := by show _ = _; rw [← HE.out]; rfl
          have hi2 : ¬ (2 : Int) < (n.args.length : Int) := by have := HLEN.out; omega
          go_wp2_with fail
          go_ret
          exact ⟨by rw [HF.out]; rfl, HB2.out.then HBW.out⟩
    · have h2b : ((n.args.length : Int) != 2) = true := by simp; omega
      have HF : Hid (D = false) := by show _ = _; rw [← HD.out, Pn.agst_no (.inr h2)]
      clear hk h2
      go_wp2_with fail
      go_ret
      exact ⟨by rw [HF.out]; rfl, HB2.out⟩
  · have hkb : (n.k != 7) = true := by simp [hk]
    have HF : Hid (D = false) := by show _ = _; rw [← HD.out, Pn.agst_no (.inl hk)]
    clear hk c9
    go_wp2_with fail
    go_ret
    exact ⟨by rw [HF.out]; rfl, HB2.out⟩
end Go.Proofs.YtjdffhonljhpcaaGreat
end

section
/-
  The contracts of plan's equal, of what eq and bound look with, and of these.
-/
namespace Go.Proofs.YtjdffhonljhpcaaGreat
set_option linter.unusedSimpArgs false
set_option linter.unusedVariables false
open Go.RowKit

set_option maxRecDepth 20000 in
theorem plequal_any (w : World) (p : Qp) (hp : QpIn w p) (hB4 : p.x.B.length ≤ 4) (n : Nd) (hn : NodeIn w n) (at_ : Int) (given : Nat) (hg16 : given < 16) :
    Calls Tryz.prog 60 #[p.v, n.v, .int .i64 at_, .int .u8 given] w (RetBo w (Pn.agst p.x n at_ given [[61]])) := by
  have HP := Lib.hid hp
  have HN := Lib.hid hn
  clear hp hn
  go_enter Tryz.func60, Tryz.ntmps60
  go_upto_region 1 with (first | (refine wpList_box_qp rfl (.tmp 0) rfl p rfl ?_; intro W1 hb1 hz1 hB1) | (refine wpList_box_nd rfl (.tmp 1) rfl n rfl ?_; intro W2 hb2 hz2 hB2))
  have hb12 := hb1.below hB2
  have HB2 := Lib.hid (hB1.then hB2)
  clear hb1 hB1 hB2 hz2 hz1
  go_wp2_with (first | (refine wpList_load_qp0 rfl (.tmp 4) rfl _ rfl hb12 ?_) | (refine wpList_load_nd rfl (.tmp 5) rfl _ rfl hb2 ?_))
  generalize hW3 : World.alloc W2 (.cells _ _) = W3
  obtain ⟨ba3, hz3, hB3⟩ := fresh1 hW3
  clear hW3
  have HB3 := Lib.hid (HB2.out.then hB3)
  have HAG := Lib.hid (plagst_any W3 p (HP.out.below HB3.out) hB4 n (nd_below15 HN.out HB3.out) at_ given hg16 (some ⟨W2.heap.size, 0, none⟩) 1 [[61]] (Blk.row eStr ba3 _ rfl (by simp [maxLen])) (by simp))
  clear hb12 hb2 ba3 hz3 hB3
  refine (show Calls _ _ _ _ _ from HAG.out).mono ?_
  rintro e W4 ⟨rfl, hB4⟩
  have HB4 := Lib.hid (HB3.out.then hB4)
  clear hB4
  go_wp2_with fail
  go_ret
  exact ⟨rfl, HB4.out⟩
/-- What a closure of eq or bound has captured. -/
structure Caps (w : World) (p : Qp) (da : Option Addr) (dc : Nat) (r : List Value) (g g1 g2 g3 g4 : Nat) (f i j : Nat) (v : Int) : Prop where
  b : Blk w g 61 (p.cells ++ .slice da p.x.defs.length dc :: r)
  q : QpIn w p
  s : Pn.Sh p.x
  d : DfsIn w da p.x.defs
  b1 : Blk w g1 58 [.pointer (some ⟨g, 0, none⟩)]
  b2 : Blk w g2 3 [.int .i64 f]
  b3 : Blk w g3 3 [.int .i64 i]
  b4 : Blk w g4 3 [.int .i64 j]
  hf : f < p.x.T.length
  hi : i < p.x.defs.length
  hv : ∃ hj : j < p.x.defs[i].cols.length, p.x.defs[i].cols[j] = v
  v0 : 0 ≤ v
  v1 : v ≤ 24
theorem Caps.below {w W : World} {p : Qp} {da : Option Addr} {dc : Nat} {r : List Value} {g g1 g2 g3 g4 f i j : Nat} {v : Int} (h : Caps w p da dc r g g1 g2 g3 g4 f i j v) (hB : Below w.heap.size w W) : Caps W p da dc r g g1 g2 g3 g4 f i j v :=
  ⟨h.b.below hB, h.q.below hB, h.s, h.d.below hB, h.b1.below hB, h.b2.below hB, h.b3.below hB, h.b4.below hB, h.hf, h.hi, h.hv, h.v0, h.v1⟩
theorem Caps.col {w : World} {p : Qp} {da : Option Addr} {dc : Nat} {r : List Value} {g g1 g2 g3 g4 f i j : Nat} {v : Int} (h : Caps w p da dc r g g1 g2 g3 g4 f i j v) :
    Calls Tryz.prog 61 #[.pointer (some ⟨g, 0, none⟩), .int .i64 f, .int .i64 i, .int .i64 j] w fun e w' => e = .returned (.int .i64 (Pn.b p.x f + v)) ∧ Below w.heap.size w w' := by
  obtain ⟨hj, hv⟩ := h.hv
  have := plcol_any w g _ p da dc r h.b h.q h.s h.d f i j h.hf h.hi hj (by rw [hv]; exact h.v0) (by rw [hv]; exact h.v1)
  rw [hv] at this
  exact this
set_option maxRecDepth 20000 in
set_option maxHeartbeats 1000000 in
theorem pleq1_any (w : World) (p : Qp) (da : Option Addr) (dc : Nat) (r : List Value) (g g1 g2 g3 g4 g5 f i j : Nat) (v : Int) (hc : Caps w p da dc r g g1 g2 g3 g4 f i j v) (given : Nat) (hg16 : given < 16) (h5 : Blk w g5 63 [.int .u8 given]) (n : Nd) (hn : NodeIn w n) :
    Calls Tryz.prog 74 #[n.v, .pointer (some ⟨g1, 0, none⟩), .pointer (some ⟨g2, 0, none⟩), .pointer (some ⟨g3, 0, none⟩), .pointer (some ⟨g4, 0, none⟩), .pointer (some ⟨g5, 0, none⟩)] w (RetBo w (Pn.agst p.x n (Pn.b p.x f + v) given [[61]])) := by
  have HC := Lib.hid hc
  have HN := Lib.hid hn
  have H5 := Lib.hid h5
  have hB4 : p.x.B.length ≤ 4 := by rw [hc.s.bl]; exact hc.s.t4
  clear hc hn h5
  -- eq$1: the function's name
  go_enter Tryz.func74, Tryz.ntmps74
  go_upto_region 1 with (first | (refine wpList_box_nd rfl (.tmp 0) rfl n rfl ?_; intro W2 hb2 hz2 hB2))
  have HB2 := Lib.hid hB2
  obtain ⟨g6, hg6⟩ : ∃ g, w.heap.size = g := ⟨_, rfl⟩
  have HNB : Hid (Blk W2 g6 27 n.cells) := by show Blk _ _ _ _; rw [← hg6]; exact hb2
  rw [hg6]
  clear hb2 hz2 hB2 hg6
  have HBD : Hid (Below w.heap.size w W2.drew) := HB2.out.drewR
  have HCD := Lib.hid (HC.out.below HBD.out)
  obtain ⟨q1, -⟩ := Blk.c1 HCD.out.b1
  obtain ⟨q2, -⟩ := Blk.c1 HCD.out.b2
  obtain ⟨q3, -⟩ := Blk.c1 HCD.out.b3
  obtain ⟨q4, -⟩ := Blk.c1 HCD.out.b4
  obtain ⟨q5, -⟩ := Blk.c1 (H5.out.below HBD.out)
  refine wp_region_plan (.take 0 (.take 1 (.take 2 (.take 3 (.take 4 (.take 5 (.take 6 (.take 7 (.take 8 (.take 10 (.run 9 [0, 1, 2, 3, 4, 10] (.run 11 [] (.take 12 .fin))))))))))))) (by kernel_rfl) (by kernel_rfl) (by kernel_rfl) (by kernel_rfl) ?_
  repeat' (first | (refine hZ _ _ ?_; clear hZ) | (refine hZ _ ?_; clear hZ) | (refine hZ ?_; clear hZ) | rw [again_nil] | rw [walk_fin] | ((first | rw [walk_take] | rw [walk_run] | rw [again_cons]); intro Z hZ; simp only [sel, List.getElem?_toArray, List.getElem?_cons_zero, List.getElem?_cons_succ]; go_wp2_with (first | (refine wpList_load_qp rfl (.tmp 10) rfl g rfl HCD.out.b ?_) | (refine wpList_load_nd rfl (.tmp 6) rfl g6 rfl (HNB.out.drew) ?_))))
  refine HCD.out.col.mono ?_
  rintro e W4 ⟨rfl, hb4⟩
  have HC4 := Lib.hid (HCD.out.below hb4)
  replace q1 := cell_later hb4 q1
  replace q2 := cell_later hb4 q2
  replace q3 := cell_later hb4 q3
  replace q4 := cell_later hb4 q4
  replace q5 := cell_later hb4 q5
  have HNB4 := Lib.hid (HNB.out.drew.below hb4)
  have HB4 := Lib.hid (HBD.out.then hb4)
  clear hb4
  go_wp2_with fail
  repeat' (first | (refine hZ _ _ ?_; clear hZ) | (refine hZ _ ?_; clear hZ) | (refine hZ ?_; clear hZ) | rw [again_nil] | rw [walk_fin] | ((first | rw [walk_take] | rw [walk_run] | rw [again_cons]); intro Z hZ; simp only [sel, List.getElem?_toArray, List.getElem?_cons_zero, List.getElem?_cons_succ]; go_wp2_with (first | (refine wpList_load_qp rfl (.tmp 10) rfl g rfl HC4.out.b ?_) | (refine wpList_load_nd rfl (.tmp 6) rfl g6 rfl HNB4.out ?_))))
  refine (plequal_any W4 p HC4.out.q hB4 n (nd_below15 HN.out HB4.out) (Pn.b p.x f + v) given hg16).mono ?_
  rintro e W5 ⟨rfl, hb5⟩
  replace q1 := cell_later hb5 q1
  replace q2 := cell_later hb5 q2
  replace q3 := cell_later hb5 q3
  replace q4 := cell_later hb5 q4
  replace q5 := cell_later hb5 q5
  have HB5 := Lib.hid (HB4.out.then hb5)
  clear hb5
  go_wp2_with fail
  repeat' (first | (refine hZ _ _ ?_; clear hZ) | (refine hZ _ ?_; clear hZ) | (refine hZ ?_; clear hZ) | rw [again_nil] | rw [walk_fin] | ((first | rw [walk_take] | rw [walk_run] | rw [again_cons]); intro Z hZ; simp only [sel, List.getElem?_toArray, List.getElem?_cons_zero, List.getElem?_cons_succ]; go_wp2_with (fail)))
  go_wp2_with fail
  go_ret
  exact ⟨rfl, HB5.out⟩
set_option maxRecDepth 20000 in
set_option maxHeartbeats 1000000 in
theorem plbound1_any (w : World) (p : Qp) (da : Option Addr) (dc : Nat) (r : List Value) (g g1 g2 g3 g4 g5 f i j : Nat) (v : Int) (hc : Caps w p da dc r g g1 g2 g3 g4 f i j v) (A : Option Addr) (c : Nat) (ops : List (List UInt8)) (hO : ERow eStr w A ops) (hl : ops.length ≤ 1000) (h5 : Blk w g5 113 [.slice A ops.length c]) (n : Nd) (hn : NodeIn w n) :
    Calls Tryz.prog 75 #[n.v, .pointer (some ⟨g1, 0, none⟩), .pointer (some ⟨g2, 0, none⟩), .pointer (some ⟨g3, 0, none⟩), .pointer (some ⟨g4, 0, none⟩), .pointer (some ⟨g5, 0, none⟩)] w (RetBo w (Pn.agst p.x n (Pn.b p.x f + v) 0 ops)) := by
  have HC := Lib.hid hc
  have HN := Lib.hid hn
  have H5 := Lib.hid h5
  have HO := Lib.hid hO
  have hB4 : p.x.B.length ≤ 4 := by rw [hc.s.bl]; exact hc.s.t4
  clear hc hn h5 hO
  -- bound$1: the function's name
  go_enter Tryz.func75, Tryz.ntmps75
  go_upto_region 1 with (first | (refine wpList_box_nd rfl (.tmp 0) rfl n rfl ?_; intro W2 hb2 hz2 hB2))
  have HB2 := Lib.hid hB2
  obtain ⟨g6, hg6⟩ : ∃ g, w.heap.size = g := ⟨_, rfl⟩
  have HNB : Hid (Blk W2 g6 27 n.cells) := by show Blk _ _ _ _; rw [← hg6]; exact hb2
  rw [hg6]
  clear hb2 hz2 hB2 hg6
  have HBD : Hid (Below w.heap.size w W2.drew) := HB2.out.drewR
  have HCD := Lib.hid (HC.out.below HBD.out)
  obtain ⟨q1, -⟩ := Blk.c1 HCD.out.b1
  obtain ⟨q2, -⟩ := Blk.c1 HCD.out.b2
  obtain ⟨q3, -⟩ := Blk.c1 HCD.out.b3
  obtain ⟨q4, -⟩ := Blk.c1 HCD.out.b4
  obtain ⟨q5, -⟩ := Blk.c1 (H5.out.below HBD.out)
  refine wp_region_plan (.take 0 (.take 1 (.take 2 (.take 3 (.take 4 (.take 5 (.take 6 (.take 7 (.take 8 (.take 10 (.run 9 [0, 1, 2, 3, 4, 10] (.run 11 [] (.take 12 .fin))))))))))))) (by kernel_rfl) (by kernel_rfl) (by kernel_rfl) (by kernel_rfl) ?_
  repeat' (first | (refine hZ _ _ ?_; clear hZ) | (refine hZ _ ?_; clear hZ) | (refine hZ ?_; clear hZ) | rw [again_nil] | rw [walk_fin] | ((first | rw [walk_take] | rw [walk_run] | rw [again_cons]); intro Z hZ; simp only [sel, List.getElem?_toArray, List.getElem?_cons_zero, List.getElem?_cons_succ]; go_wp2_with (first | (refine wpList_load_qp rfl (.tmp 10) rfl g rfl HCD.out.b ?_) | (refine wpList_load_nd rfl (.tmp 6) rfl g6 rfl (HNB.out.drew) ?_))))
  refine HCD.out.col.mono ?_
  rintro e W4 ⟨rfl, hb4⟩
  have HC4 := Lib.hid (HCD.out.below hb4)
  replace q1 := cell_later hb4 q1
  replace q2 := cell_later hb4 q2
  replace q3 := cell_later hb4 q3
  replace q4 := cell_later hb4 q4
  replace q5 := cell_later hb4 q5
  have HNB4 := Lib.hid (HNB.out.drew.below hb4)
  have HB4 := Lib.hid (HBD.out.then hb4)
  clear hb4
  go_wp2_with fail
  repeat' (first | (refine hZ _ _ ?_; clear hZ) | (refine hZ _ ?_; clear hZ) | (refine hZ ?_; clear hZ) | rw [again_nil] | rw [walk_fin] | ((first | rw [walk_take] | rw [walk_run] | rw [again_cons]); intro Z hZ; simp only [sel, List.getElem?_toArray, List.getElem?_cons_zero, List.getElem?_cons_succ]; go_wp2_with (first | (refine wpList_load_qp rfl (.tmp 10) rfl g rfl HC4.out.b ?_) | (refine wpList_load_nd rfl (.tmp 6) rfl g6 rfl HNB4.out ?_))))
  refine (plagst_any W4 p HC4.out.q hB4 n (nd_below15 HN.out HB4.out) (Pn.b p.x f + v) 0 (by omega) A c ops (HO.out.below HB4.out) hl).mono ?_
  rintro e W5 ⟨rfl, hb5⟩
  replace q1 := cell_later hb5 q1
  replace q2 := cell_later hb5 q2
  replace q3 := cell_later hb5 q3
  replace q4 := cell_later hb5 q4
  replace q5 := cell_later hb5 q5
  have HB5 := Lib.hid (HB4.out.then hb5)
  clear hb5
  go_wp2_with fail
  repeat' (first | (refine hZ _ _ ?_; clear hZ) | (refine hZ _ ?_; clear hZ) | (refine hZ ?_; clear hZ) | rw [again_nil] | rw [walk_fin] | ((first | rw [walk_take] | rw [walk_run] | rw [again_cons]); intro Z hZ; simp only [sel, List.getElem?_toArray, List.getElem?_cons_zero, List.getElem?_cons_succ]; go_wp2_with (fail)))
  go_wp2_with fail
  go_ret
  exact ⟨rfl, HB5.out⟩
set_option maxRecDepth 20000 in
set_option maxHeartbeats 1000000 in
theorem plidxeq_any (w : World) (p : Qp) (da : Option Addr) (dc : Nat) (r : List Value) (g g1 g2 g3 g4 g5 f i j : Nat) (v : Int) (hc : Caps w p da dc r g g1 g2 g3 g4 f i j v) (given : Nat) (hg16 : given < 16) (h5 : Blk w g5 63 [.int .u8 given]) (hfew : p.x.wh.length ≤ 1000) :
    Calls Tryz.prog 73 #[.slice p.wa p.x.wh.length p.wc, .func (.func 74) #[] #[.pointer (some ⟨g1, 0, none⟩), .pointer (some ⟨g2, 0, none⟩), .pointer (some ⟨g3, 0, none⟩), .pointer (some ⟨g4, 0, none⟩), .pointer (some ⟨g5, 0, none⟩)]] w (RetI w (Pn.idx p.x (Pn.b p.x f + v) given [[61]])) := by
  have HP := Lib.hid hc.q
  have HCL := Lib.hid (fun W hB (n : Nd) hn => pleq1_any W p da dc r g g1 g2 g3 g4 g5 f i j v (hc.below hB) given hg16 (h5.below hB) n hn)
  obtain ⟨D, hD⟩ : ∃ D, Pn.idx p.x (Pn.b p.x f + v) given [[61]] = D := ⟨_, rfl⟩
  have HD : Hid (Pn.idxF p.x (Pn.b p.x f + v) given [[61]] 0 (p.x.wh.drop 0) = D) := hD
  rw [hD]
  generalize Pn.b p.x f + v = at_ at HD HCL
  generalize ([[61]] : List (List UInt8)) = ops at HD HCL
  clear hc h5 hD
  -- IndexFunc over L with a closure: HCL: what it answers, at a node of L
  go_enter Tryz.func73, Tryz.ntmps73
  go_wp2_with fail
  go_loopw [8] (fun iv wr => ∃ i : Nat, i ≤ p.x.wh.length ∧ iv = .int .i64 (i : Int) ∧ Hid (Pn.idxF p.x at_ given ops i (p.x.wh.drop i) = D ∧ Below w.heap.size w wr)) (fun iv _ => p.x.wh.length - (intOf iv).toNat)
  case atStart => exact ⟨0, Nat.zero_le _, by go_num, HD.out, Below.refl _ _⟩
  case round =>
    obtain ⟨i, hi, rfl, HJ⟩ := hrel
    have HE := Lib.hid HJ.out.1
    have HBW := Lib.hid HJ.out.2
    clear HJ
    by_cases hlt : i < p.x.wh.length
    · have hii : (i : Int) < (p.x.wh.length : Int) := by omega
      obtain ⟨bb, oo, ha, -, -⟩ := HP.out.wn.at_ hlt
      have HIW : Hid (ERow eNd wr (some ⟨bb, oo, none⟩) p.x.wh) := by show ERow _ _ _ _; rw [← ha]; exact HP.out.wn.below HBW.out
      obtain ⟨y, hy⟩ : ∃ y, p.x.wh[i] = y := ⟨_, rfl⟩
      have HYE := Lib.hid hy
      have HNI := Lib.hid (HP.out.nin y (by rw [← hy]; exact List.getElem_mem hlt))
      have HX : Hid ((if Pn.agst p.x y at_ given ops = true then (i : Int) else Pn.idxF p.x at_ given ops (i + 1) (p.x.wh.drop (i + 1))) = D) := by
        show _ = _
        rw [← HE.out, List.drop_eq_getElem_cons hlt, hy]
        rfl
      rw [ha]
      clear ha hy
      go_wp2_with (refine wpList_load_nd_is rfl (.tmp 14) rfl HIW.out hlt y HYE.out rfl ?_)
      refine (HCL.out wr HBW.out y (nd_below15 HNI.out HBW.out)).mono ?_
      rintro e W8 ⟨rfl, hB8⟩
      have HB8 := Lib.hid (HBW.out.then hB8)
      clear hB8
      cases hb : Pn.agst p.x y at_ given ops with
      | true =>
        have HR : Hid ((i : Int) = D) := by show _ = _; rw [← HX.out, if_pos hb]
        clear hb
        go_wp2_with fail
        go_ret
        exact ⟨by rw [← HR.out]; rfl, HB8.out⟩
      | false =>
        have HR : Hid (Pn.idxF p.x at_ given ops (i + 1) (p.x.wh.drop (i + 1)) = D) := by show _ = _; rw [← HX.out, if_neg (by rw [hb]; simp)]
        clear hb
        go_wp2_with fail
        go_roundw
        case rel => exact ⟨i + 1, by omega, by go_num, HR.out, HB8.out⟩
        case measure => simp [intOf]; omega
    · have hii : ¬ (i : Int) < (p.x.wh.length : Int) := by omega
      have HR : Hid (-1 = D) := by
        show _ = _
        rw [← HE.out, List.drop_eq_nil_of_le (by omega)]
        rfl
      go_wp2_with fail
      go_ret
      exact ⟨by rw [← HR.out]; rfl, HBW.out⟩
set_option maxRecDepth 20000 in
set_option maxHeartbeats 1000000 in
theorem plidxbd_any (w : World) (p : Qp) (da : Option Addr) (dc : Nat) (r : List Value) (g g1 g2 g3 g4 g5 f i j : Nat) (v : Int) (hc : Caps w p da dc r g g1 g2 g3 g4 f i j v) (A : Option Addr) (c : Nat) (ops : List (List UInt8)) (hO : ERow eStr w A ops) (hl : ops.length ≤ 1000) (h5 : Blk w g5 113 [.slice A ops.length c]) (hfew : p.x.wh.length ≤ 1000) :
    Calls Tryz.prog 73 #[.slice p.wa p.x.wh.length p.wc, .func (.func 75) #[] #[.pointer (some ⟨g1, 0, none⟩), .pointer (some ⟨g2, 0, none⟩), .pointer (some ⟨g3, 0, none⟩), .pointer (some ⟨g4, 0, none⟩), .pointer (some ⟨g5, 0, none⟩)]] w (RetI w (Pn.idx p.x (Pn.b p.x f + v) 0 ops)) := by
  have HP := Lib.hid hc.q
  have HCL := Lib.hid (fun W hB (n : Nd) hn => plbound1_any W p da dc r g g1 g2 g3 g4 g5 f i j v (hc.below hB) A c ops (hO.below hB) hl (h5.below hB) n hn)
  obtain ⟨given, hgv⟩ : ∃ given : Nat, 0 = given := ⟨_, rfl⟩
  obtain ⟨D, hD⟩ : ∃ D, Pn.idx p.x (Pn.b p.x f + v) 0 ops = D := ⟨_, rfl⟩
  have HD : Hid (Pn.idxF p.x (Pn.b p.x f + v) 0 ops 0 (p.x.wh.drop 0) = D) := hD
  rw [hD]
  generalize Pn.b p.x f + v = at_ at HD HCL
  have HCL : Hid (∀ W, Below w.heap.size w W → ∀ n, NodeIn W n → Calls Tryz.prog 75 #[n.v, .pointer (some ⟨g1, 0, none⟩), .pointer (some ⟨g2, 0, none⟩), .pointer (some ⟨g3, 0, none⟩), .pointer (some ⟨g4, 0, none⟩), .pointer (some ⟨g5, 0, none⟩)] W (RetBo W (Pn.agst p.x n at_ given ops))) := by rw [← hgv]; exact HCL.out
  have HD : Hid (Pn.idxF p.x at_ given ops 0 (p.x.wh.drop 0) = D) := by rw [← hgv]; exact HD.out
  clear hc h5 hD hgv hO
  -- IndexFunc over L with a closure: HCL: what it answers, at a node of L
  go_enter Tryz.func73, Tryz.ntmps73
  go_wp2_with fail
  go_loopw [8] (fun iv wr => ∃ i : Nat, i ≤ p.x.wh.length ∧ iv = .int .i64 (i : Int) ∧ Hid (Pn.idxF p.x at_ given ops i (p.x.wh.drop i) = D ∧ Below w.heap.size w wr)) (fun iv _ => p.x.wh.length - (intOf iv).toNat)
  case atStart => exact ⟨0, Nat.zero_le _, by go_num, HD.out, Below.refl _ _⟩
  case round =>
    obtain ⟨i, hi, rfl, HJ⟩ := hrel
    have HE := Lib.hid HJ.out.1
    have HBW := Lib.hid HJ.out.2
    clear HJ
    by_cases hlt : i < p.x.wh.length
    · have hii : (i : Int) < (p.x.wh.length : Int) := by omega
      obtain ⟨bb, oo, ha, -, -⟩ := HP.out.wn.at_ hlt
      have HIW : Hid (ERow eNd wr (some ⟨bb, oo, none⟩) p.x.wh) := by show ERow _ _ _ _; rw [← ha]; exact HP.out.wn.below HBW.out
      obtain ⟨y, hy⟩ : ∃ y, p.x.wh[i] = y := ⟨_, rfl⟩
      have HYE := Lib.hid hy
      have HNI := Lib.hid (HP.out.nin y (by rw [← hy]; exact List.getElem_mem hlt))
      have HX : Hid ((if Pn.agst p.x y at_ given ops = true then (i : Int) else Pn.idxF p.x at_ given ops (i + 1) (p.x.wh.drop (i + 1))) = D) := by
        show _ = _
        rw [← HE.out, List.drop_eq_getElem_cons hlt, hy]
        rfl
      rw [ha]
      clear ha hy
      go_wp2_with (refine wpList_load_nd_is rfl (.tmp 14) rfl HIW.out hlt y HYE.out rfl ?_)
      refine (HCL.out wr HBW.out y (nd_below15 HNI.out HBW.out)).mono ?_
      rintro e W8 ⟨rfl, hB8⟩
      have HB8 := Lib.hid (HBW.out.then hB8)
      clear hB8
      cases hb : Pn.agst p.x y at_ given ops with
      | true =>
        have HR : Hid ((i : Int) = D) := by show _ = _; rw [← HX.out, if_pos hb]
        clear hb
        go_wp2_with fail
        go_ret
        exact ⟨by rw [← HR.out]; rfl, HB8.out⟩
      | false =>
        have HR : Hid (Pn.idxF p.x at_ given ops (i + 1) (p.x.wh.drop (i + 1)) = D) := by show _ = _; rw [← HX.out, if_neg (by rw [hb]; simp)]
        clear hb
        go_wp2_with fail
        go_roundw
        case rel => exact ⟨i + 1, by omega, by go_num, HR.out, HB8.out⟩
        case measure => simp [intOf]; omega
    · have hii : ¬ (i : Int) < (p.x.wh.length : Int) := by omega
      have HR : Hid (-1 = D) := by
        show _ = _
        rw [← HE.out, List.drop_eq_nil_of_le (by omega)]
        rfl
      go_wp2_with fail
      go_ret
      exact ⟨by rw [← HR.out]; rfl, HBW.out⟩
end Go.Proofs.YtjdffhonljhpcaaGreat
end

section
/-
  The contracts of a planner's eq and bound.
-/
namespace Go.Proofs.YtjdffhonljhpcaaGreat
set_option linter.unusedSimpArgs false
set_option linter.unusedVariables false
open Go.RowKit

namespace Pn
theorem fitsD_cols {x : PX} {f : Nat} {d : Df} (hs : Sh x) (hf : f < x.T.length) (h : fitsD x f d = true) : ∀ c ∈ d.cols, 0 ≤ c ∧ c ≤ 24 := by
  intro c hc
  unfold fitsD at h
  simp only [Bool.and_eq_true, List.all_eq_true, decide_eq_true_eq] at h
  have := h.2 c hc
  have := hs.lt f hf
  omega
theorem eqF_drop (x : PX) (f given : Nat) (L : List Int) (j : Nat) (h : j < L.length) (out : List Int) : eqF x f given (L.drop j) out = if idx x (b x f + L[j]) given [[61]] < 0 then out else eqF x f given (L.drop (j + 1)) (out ++ [idx x (b x f + L[j]) given [[61]]]) := by
  rw [List.drop_eq_getElem_cons h]; rfl
theorem idxF_ge (x : PX) (at_ : Int) (given : Nat) (ops : List (List UInt8)) : ∀ (L : List Nd) (i : Nat), -1 ≤ idxF x at_ given ops i L ∧ idxF x at_ given ops i L < (i + L.length : Nat)
  | [], i => by show -1 ≤ (-1 : Int) ∧ (-1 : Int) < _; omega
  | n :: L, i => by
    unfold idxF
    split
    · rw [List.length_cons]; omega
    · have := idxF_ge x at_ given ops L (i + 1)
      rw [List.length_cons]
      omega
theorem idx_lt (x : PX) (at_ : Int) (given : Nat) (ops : List (List UInt8)) : -1 ≤ idx x at_ given ops ∧ idx x at_ given ops < (x.wh.length : Int) := by
  have := idxF_ge x at_ given ops x.wh 0
  unfold idx
  omega
theorem eqF_lt (x : PX) (f given : Nat) : ∀ (L out : List Int), (∀ i ∈ out, 0 ≤ i ∧ i < (x.wh.length : Int)) → ∀ i ∈ eqF x f given L out, 0 ≤ i ∧ i < (x.wh.length : Int)
  | [], out, h => h
  | c :: L, out, h => by
    unfold eqF
    split
    · exact h
    · next hk =>
      refine eqF_lt x f given L _ fun i hi => ?_
      rcases List.mem_append.1 hi with hi | hi
      · exact h i hi
      · rw [List.mem_singleton.1 hi]
        have := idx_lt x (b x f + c) given [[61]]
        omega
theorem eqN_lt (x : PX) (f given : Nat) (d : Df) : ∀ i ∈ eqN x f d given, 0 ≤ i ∧ i < (x.wh.length : Int) := eqF_lt x f given d.cols [] (by intro i hi; cases hi)
theorem eqF_len (x : PX) (f given : Nat) : ∀ (L out : List Int), (eqF x f given L out).length ≤ out.length + L.length
  | [], out => Nat.le_refl _
  | c :: L, out => by
    unfold eqF
    split
    · rw [List.length_cons]; omega
    · have := eqF_len x f given L (out ++ [idx x (b x f + c) given [[61]]])
      simp at this ⊢
      omega
theorem eqN_len (x : PX) (f given : Nat) (d : Df) : (eqN x f d given).length ≤ d.cols.length := by
  have := eqF_len x f given d.cols []
  simpa [eqN] using this
end Pn
set_option maxRecDepth 20000 in
set_option maxHeartbeats 4000000 in
theorem pleq_any (w : World) (g : Nat) (X : Wp) (hb : Blk w g 61 X.cells) (hX : WpIn w X) (f i : Nat) (hf : f < X.p.x.T.length) (hi : i < X.p.x.defs.length) (hfit : Pn.fitsD X.p.x f X.p.x.defs[i] = true) (given : Nat) (hg16 : given < 16) :
    Calls Tryz.prog 51 #[.pointer (some ⟨g, 0, none⟩), .int .i64 f, .int .i64 i, .int .u8 given] w (RetRow eInt w (Pn.eqN X.p.x f X.p.x.defs[i] given)) := by
  have HX := Lib.hid hX
  have HB := Lib.hid hb
  have hfew := hX.few
  have hii : (i : Int) < (X.p.x.defs.length : Int) := by omega
  obtain ⟨d, hd0⟩ : ∃ d, X.p.x.defs[i] = d := ⟨_, rfl⟩
  have HI := Lib.hid hi
  have HD0 := Lib.hid hd0
  have hdm : d ∈ X.p.x.defs := by rw [← hd0]; exact List.getElem_mem hi
  have hcl := hX.d.cl d hdm
  have hdl := hX.d.len
  rw [hd0] at hfit
  have HCB := Lib.hid (Pn.fitsD_cols hX.s hf hfit)
  obtain ⟨bd, od, had, -, -, -⟩ := df_at hX.d.r hi
  obtain ⟨D, hD⟩ : ∃ D, Pn.eqN X.p.x f d given = D := ⟨_, rfl⟩
  have HD : Hid (Pn.eqF X.p.x f given (d.cols.drop 0) [] = D) := hD
  have hDl : D.length ≤ 1000 := by rw [← hD]; exact Nat.le_trans (Pn.eqN_len _ _ _ _) hcl
  simp only [hd0, hD]
  have HQ9 : Hid (∀ W, Below w.heap.size w W → W.cell? ⟨g, 9, none⟩ = some (.slice (some ⟨bd, od, none⟩) X.p.x.defs.length X.dc) ∧ W.cell? ⟨bd, od + i * 3 + 1, none⟩ = some (.slice d.a d.cols.length d.c)) := fun W hW => by
    obtain ⟨q, -, -, -⟩ := Blk.wt (hb.below hW)
    rw [had] at q
    obtain ⟨b', o', e', -, -, q1⟩ := df_at (hX.d.r.below hW) hi
    rw [had] at e'
    cases e'
    rw [hd0] at q1
    exact ⟨q, q1⟩
  clear hX hb hd0 hdm hfit had hD hdl
  go_enter Tryz.func51, Tryz.ntmps51
  go_upto_region 2 with fail
  generalize hW1 : ((((World.alloc w (.cells _ _)).alloc (.cells _ _)).alloc (.cells _ _)).alloc (.cells _ _)) = W1
  obtain ⟨ba1, bb1, bc1, bd1, hz1, hB1⟩ := fresh4 hW1
  clear hW1
  have HB1 := Lib.hid hB1
  have HA1 := Lib.hid ba1
  have HA2 := Lib.hid bb1
  have HA3 := Lib.hid bc1
  have HA4 := Lib.hid bd1
  have HZ1 := Lib.hid hz1
  obtain ⟨q4, -⟩ := Blk.c1 ba1.drew
  obtain ⟨q6, -⟩ := Blk.c1 bc1.drew
  obtain ⟨q9, qd⟩ := HQ9.out W1.drew hB1.drewR
  clear ba1 bb1 bc1 bd1 hz1 hB1
  obtain ⟨g4, hg4⟩ : ∃ g, w.heap.size = g := ⟨_, rfl⟩
  obtain ⟨g5, hg5⟩ : ∃ g, w.heap.size + 1 = g := ⟨_, rfl⟩
  obtain ⟨g6, hg6⟩ : ∃ g, w.heap.size + 1 + 1 = g := ⟨_, rfl⟩
  obtain ⟨g7, hg7⟩ : ∃ g, w.heap.size + 1 + 1 + 1 = g := ⟨_, rfl⟩
  rw [hg7] at HA4 ⊢
  rw [hg6] at HA3 q6 ⊢
  rw [hg5] at HA2 ⊢
  rw [hg4] at HA1 q4 ⊢
  have HG := Lib.hid (And.intro hg4 (And.intro hg5 (And.intro hg6 hg7)))
  clear hg4 hg5 hg6 hg7
  go_upto_region 2 with fail
  refine wp_region_plan (.take 0 (.take 1 (.take 2 (.take 3 (.take 4 (.take 5 (.take 6 (.take 7 (.take 8 (.take 9 .fin)))))))))) (by kernel_rfl) (by kernel_rfl) (by kernel_rfl) (by kernel_rfl) ?_
  repeat' (first | (refine hZ _ _ ?_; clear hZ) | (refine hZ _ ?_; clear hZ) | (refine hZ ?_; clear hZ) | rw [again_nil] | rw [walk_fin] | ((first | rw [walk_take] | rw [walk_run] | rw [again_cons]); intro Z hZ; simp only [sel, List.getElem?_toArray, List.getElem?_cons_zero, List.getElem?_cons_succ]; go_wp2_with (fail)))
  go_upto_region 3 with fail
  have HB2 : Hid (Below w.heap.size w W1.drew) := HB1.out.drewR
  have HA1 : Hid (Blk W1.drew g4 _ _) := HA1.out.drew
  have HA2 : Hid (Blk W1.drew g5 _ _) := HA2.out.drew
  have HA3 : Hid (Blk W1.drew g6 _ _) := HA3.out.drew
  have HA4 : Hid (Blk W1.drew g7 _ _) := HA4.out.drew
  clear q4 q6 q9 qd
  generalize W1.drew = W2 at HB2 HA1 HA2 HA3 HA4 ⊢
  have hmf : ∀ (fn : Fn) (first cap : Array Value) (w : World), (Instr.makeFunc fn first cap).run Tryz.prog w = .ok (.func fn first cap) w := fun _ _ _ _ => rfl
  go_loopw [9, 21] (fun ov iv wr => ∃ (j : Nat) (out : List Int) (A : Option Addr) (c : Nat), j ≤ d.cols.length ∧ iv = .int .i64 (j : Int) ∧ ov = .slice A out.length c ∧ out.length = j ∧ Hid (Pn.eqF X.p.x f given (d.cols.drop j) out = D ∧ EOwn eInt wr W2.heap.size A c out ∧ Below W2.heap.size W2 wr)) (fun _ iv _ => d.cols.length - (intOf iv).toNat)
  case atStart => exact ⟨0, [], none, 0, Nat.zero_le _, by go_num, rfl, rfl, HD.out, EOwn.nil _ _, Below.refl _ _⟩
  case round =>
    obtain ⟨j, out, A, c, hj, rfl, rfl, hol, HJ⟩ := hrel
    have HE := Lib.hid HJ.out.1
    have HO := Lib.hid HJ.out.2.1
    have HBW := Lib.hid HJ.out.2.2
    have HOL := Lib.hid hol
    clear HJ hol
    by_cases hlt : j < d.cols.length
    · have hjj : (j : Int) < (d.cols.length : Int) := by omega
      obtain ⟨v, hv⟩ : ∃ v, d.cols[j] = v := ⟨_, rfl⟩
      have HV := Lib.hid hv
      have HVB := Lib.hid (HCB.out v (by rw [← hv]; exact List.getElem_mem hlt))
      have HX2 : Hid ((if Pn.idx X.p.x (Pn.b X.p.x f + v) given [[61]] < 0 then out else Pn.eqF X.p.x f given (d.cols.drop (j + 1)) (out ++ [Pn.idx X.p.x (Pn.b X.p.x f + v) given [[61]]])) = D) := by show _ = _; rw [← HE.out, Pn.eqF_drop _ _ _ _ _ hlt, hv]
      clear hv
      go_upto_region 5 with fail
      generalize hW5 : World.alloc wr (.cells _ _) = W5
      obtain ⟨ba5, hz5, hB5⟩ := fresh1 hW5
      clear hW5
      have HB5 := Lib.hid (HBW.out.then hB5)
      have HBV : Hid (Below w.heap.size w W5) := HB2.out.then HB5.out
      obtain ⟨g10, hg10⟩ : ∃ g, wr.heap.size = g := ⟨_, rfl⟩
      rw [hg10] at ba5 ⊢
      have HC : Hid (Caps W5 X.p X.da X.dc X.tail g g4 g5 g6 g10 f i j v) :=
        ⟨HB.out.below HBV.out, HX.out.q.below HBV.out, HX.out.s, HX.out.d.below HBV.out, HA1.out.below HB5.out, HA2.out.below HB5.out, HA3.out.below HB5.out, ba5, hf, HI.out, by rw [HD0.out]; exact ⟨hlt, HV.out⟩, HVB.out.1, HVB.out.2⟩
      obtain ⟨q4, -⟩ := Blk.c1 HC.out.b1
      obtain ⟨-, c3⟩ := Blk.wq HC.out.b
      have HO5 : Hid (EOwn eInt W5 W2.heap.size A c out) := HO.out.below hB5
      clear ba5 hz5 hB5 hg10
      have HIE := Lib.hid (plidxeq_any W5 X.p X.da X.dc X.tail g g4 g5 g6 g10 g7 f i j v HC.out given hg16 (HA4.out.below HB5.out) HX.out.few)
      go_wp2_with fail
      refine HIE.out.mono ?_
      rintro e W6 ⟨rfl, hB6⟩
      have HB6 := Lib.hid (HB5.out.then hB6)
      have HO6 := Lib.hid (HO5.out.below hB6)
      have hz6 : W2.heap.size ≤ W6.heap.size := HB6.out.size
      clear q4 c3 hB6 HIE
      generalize Pn.idx X.p.x (Pn.b X.p.x f + v) given [[61]] = k at HX2 ⊢
      by_cases hk : k < 0
      · have HF : Hid (out = D) := by show _ = _; rw [← HX2.out, if_pos hk]
        have HOD : Hid (EOwn eInt W6 w.heap.size A c D) := by rw [← HF.out]; exact HO6.out.mono HB2.out.size
        have HDL : Hid (out.length = D.length) := by show _ = _; rw [HF.out]
        go_wp2_with fail
        go_ret
        exact ⟨A, c, by rw [← HDL.out]; rfl, HOD.out, HB2.out.then HB6.out⟩
      · have HF : Hid (Pn.eqF X.p.x f given (d.cols.drop (j + 1)) (out ++ [k]) = D) := by show _ = _; rw [← HX2.out, if_neg hk]
        have hoA := HO6.out.alloc (.cells #[.int .i64 k] 3)
        have hrA := ERow.lit eInt W6 k #[.int .i64 k] rfl W6.heap.size rfl
        have hol : out.length ≤ 1000 := by rw [HOL.out]; omega
        go_wp2_with (at_builtin; refine wpList_append_elems eInt rfl (.tmp 33) (.tmp 35) rfl out.length rfl hoA rfl 1 rfl hrA rfl (by simp; omega) (by simp; omega) ?_; intro A3 c3 w3 ho3 hb3 hg3 ha3)
        have HO9 := Lib.hid ho3
        have HB9 : Hid (Below W2.heap.size W2 w3) := (HB6.out.trans ((Below.alloc1 _ _).mono hz6)).trans hb3
        clear hoA hrA ho3 hb3 hg3 ha3
        go_roundw
        case rel => exact ⟨j + 1, out ++ [k], A3, c3, by omega, by go_num, by rw [List.length_append]; rfl, by rw [List.length_append, HOL.out]; rfl, HF.out, HO9.out, HB9.out⟩
        case measure => simp [intOf]; omega
    · have hjj : ¬ (j : Int) < (d.cols.length : Int) := by omega
      have HF : Hid (out = D) := by show _ = _; rw [← HE.out, List.drop_eq_nil_of_le (by omega)]; rfl
      have HOD : Hid (EOwn eInt wr w.heap.size A c D) := by rw [← HF.out]; exact HO.out.mono HB2.out.size
      have HDL : Hid (out.length = D.length) := by show _ = _; rw [HF.out]
      go_wp2_with fail
      go_ret
      exact ⟨A, c, by rw [← HDL.out]; rfl, HOD.out, HB2.out.then HBW.out⟩
set_option maxRecDepth 20000 in
set_option maxHeartbeats 4000000 in
theorem plbound_any (w : World) (g : Nat) (X : Wp) (hb : Blk w g 61 X.cells) (hX : WpIn w X) (f i : Nat) (hf : f < X.p.x.T.length) (hi : i < X.p.x.defs.length) (hfit : Pn.fitsD X.p.x f X.p.x.defs[i] = true) (next : Nat) (hn : next ≤ 1000) (A : Option Addr) (c : Nat) (ops : List (List UInt8)) (hO : ERow eStr w A ops) (hl : ops.length ≤ 1000) :
    Calls Tryz.prog 52 #[.pointer (some ⟨g, 0, none⟩), .int .i64 f, .int .i64 i, .int .i64 next, .slice A ops.length c] w (RetI w (Pn.bound X.p.x f X.p.x.defs[i] next ops)) := by
  have HX := Lib.hid hX
  have HB := Lib.hid hb
  have HO := Lib.hid hO
  have hfew := hX.few
  have hii : (i : Int) < (X.p.x.defs.length : Int) := by omega
  obtain ⟨d, hd0⟩ : ∃ d, X.p.x.defs[i] = d := ⟨_, rfl⟩
  have HI := Lib.hid hi
  have HD0 := Lib.hid hd0
  have hdm : d ∈ X.p.x.defs := by rw [← hd0]; exact List.getElem_mem hi
  have hcl := hX.d.cl d hdm
  have hdl := hX.d.len
  rw [hd0] at hfit
  have HCB := Lib.hid (Pn.fitsD_cols hX.s hf hfit)
  obtain ⟨bd, od, had, -, -, -⟩ := df_at hX.d.r hi
  simp only [hd0]
  obtain ⟨D, hD⟩ : ∃ D, Pn.bound X.p.x f d next ops = D := ⟨_, rfl⟩
  have HD := Lib.hid hD
  rw [hD]
  have HQ9 : Hid (∀ W, Below w.heap.size w W → W.cell? ⟨g, 9, none⟩ = some (.slice (some ⟨bd, od, none⟩) X.p.x.defs.length X.dc) ∧ W.cell? ⟨bd, od + i * 3 + 1, none⟩ = some (.slice d.a d.cols.length d.c)) := fun W hW => by
    obtain ⟨q, -, -, -⟩ := Blk.wt (hb.below hW)
    rw [had] at q
    obtain ⟨b', o', e', -, -, q1⟩ := df_at (hX.d.r.below hW) hi
    rw [had] at e'
    cases e'
    rw [hd0] at q1
    exact ⟨q, q1⟩
  have hmf : ∀ (fn : Fn) (first cap : Array Value) (w : World), (Instr.makeFunc fn first cap).run Tryz.prog w = .ok (.func fn first cap) w := fun _ _ _ _ => rfl
  clear hX hb hd0 hdm hfit had hdl hD hO
  go_enter Tryz.func52, Tryz.ntmps52
  go_upto_region 1 with fail
  generalize hW4 : ((((World.alloc w (.cells _ _)).alloc (.cells _ _)).alloc (.cells _ _)).alloc (.cells _ _)) = W4
  have hs4 : W4.heap.size = w.heap.size + 1 + 1 + 1 + 1 := by rw [← hW4]; simp
  obtain ⟨ba1, bb1, bc1, bd1, hz1, hB1⟩ := fresh4 hW4
  generalize hW5 : World.alloc W4 (.cells _ _) = W5
  obtain ⟨be1, hz5, hB5⟩ := fresh1 hW5
  rw [hs4] at be1
  have HB1 := Lib.hid (hB1.then hB5)
  have HA1 := Lib.hid (ba1.below hB5)
  have HA2 := Lib.hid (bb1.below hB5)
  have HA3 := Lib.hid (bc1.below hB5)
  have HA4 := Lib.hid (bd1.below hB5)
  have HA5 := Lib.hid be1
  clear hW4 hW5 hs4 ba1 bb1 bc1 bd1 be1 hz1 hz5 hB1 hB5
  obtain ⟨g5, hg5⟩ : ∃ g, w.heap.size = g := ⟨_, rfl⟩
  obtain ⟨g6, hg6⟩ : ∃ g, w.heap.size + 1 = g := ⟨_, rfl⟩
  obtain ⟨g7, hg7⟩ : ∃ g, w.heap.size + 1 + 1 = g := ⟨_, rfl⟩
  obtain ⟨g8, hg8⟩ : ∃ g, w.heap.size + 1 + 1 + 1 = g := ⟨_, rfl⟩
  obtain ⟨g9, hg9⟩ : ∃ g, w.heap.size + 1 + 1 + 1 + 1 = g := ⟨_, rfl⟩
  rw [hg9] at HA5 ⊢
  rw [hg8] at HA4 ⊢
  rw [hg7] at HA3 ⊢
  rw [hg6] at HA2 ⊢
  rw [hg5] at HA1 ⊢
  clear hg5 hg6 hg7 hg8 hg9
  obtain ⟨q5, -⟩ := Blk.c1 HA1.out.drew
  obtain ⟨q7, -⟩ := Blk.c1 HA3.out.drew
  obtain ⟨q8, -⟩ := Blk.c1 HA4.out.drew
  have HBD : Hid (Below w.heap.size w W5.drew) := HB1.out.drewR
  obtain ⟨q9, qd⟩ := HQ9.out W5.drew HBD.out
  by_cases hlt : next < d.cols.length
  · have hjj : ¬ (d.cols.length : Int) ≤ (next : Int) := by omega
    obtain ⟨v, hv⟩ : ∃ v, d.cols[next] = v := ⟨_, rfl⟩
    have HV := Lib.hid hv
    have HVB := Lib.hid (HCB.out v (by rw [← hv]; exact List.getElem_mem hlt))
    have HF : Hid (D = Pn.idx X.p.x (Pn.b X.p.x f + v) 0 ops) := by
      show _ = _
      rw [← HD.out]
      unfold Pn.bound
      rw [if_pos hlt]
      congr 2
      simp [List.getD, hlt, hv]
    clear hv
    have HC : Hid (Caps W5.drew X.p X.da X.dc X.tail g g5 g6 g7 g8 f i next v) :=
      ⟨HB.out.below HBD.out, HX.out.q.below HBD.out, HX.out.s, HX.out.d.below HBD.out, HA1.out.drew, HA2.out.drew, HA3.out.drew, HA4.out.drew, hf, HI.out, by rw [HD0.out]; exact ⟨hlt, HV.out⟩, HVB.out.1, HVB.out.2⟩
    obtain ⟨-, c3⟩ := Blk.wq HC.out.b
    have HIE := Lib.hid (plidxbd_any W5.drew X.p X.da X.dc X.tail g g5 g6 g7 g8 g9 f i next v HC.out A c ops (HO.out.below HBD.out) hl HA5.out.drew HX.out.few)
    refine wp_region_plan (.take 0 (.take 1 (.take 2 (.take 3 (.take 4 (.take 5 (.take 6 (.take 7 (.take 8 (.take 9 (.take 10 .fin))))))))))) (by kernel_rfl) (by kernel_rfl) (by kernel_rfl) (by kernel_rfl) ?_
    repeat' (first | (refine hZ _ _ ?_; clear hZ) | (refine hZ _ ?_; clear hZ) | (refine hZ ?_; clear hZ) | rw [again_nil] | rw [walk_fin] | ((first | rw [walk_take] | rw [walk_run] | rw [again_cons]); intro Z hZ; simp only [sel, List.getElem?_toArray, List.getElem?_cons_zero, List.getElem?_cons_succ]; go_wp2_with (fail)))
    go_wp2_with fail
    refine HIE.out.mono ?_
    rintro e W6 ⟨rfl, hB6⟩
    have HB6 := Lib.hid (HBD.out.then hB6)
    clear hB6
    go_wp2_with fail
    go_ret
    exact ⟨by rw [HF.out]; rfl, HB6.out⟩
  · have hjj : (d.cols.length : Int) ≤ (next : Int) := by omega
    have HF : Hid (D = -1) := by show _ = _; rw [← HD.out]; unfold Pn.bound; rw [if_neg hlt]
    refine wp_region_plan (.take 0 (.take 1 (.take 2 (.take 3 (.take 4 (.take 5 (.take 6 (.take 7 (.take 8 (.take 9 (.take 10 .fin))))))))))) (by kernel_rfl) (by kernel_rfl) (by kernel_rfl) (by kernel_rfl) ?_
    repeat' (first | (refine hZ _ _ ?_; clear hZ) | (refine hZ _ ?_; clear hZ) | (refine hZ ?_; clear hZ) | rw [again_nil] | rw [walk_fin] | ((first | rw [walk_take] | rw [walk_run] | rw [again_cons]); intro Z hZ; simp only [sel, List.getElem?_toArray, List.getElem?_cons_zero, List.getElem?_cons_succ]; go_wp2_with (fail)))
    go_wp2_with fail
    go_ret
    exact ⟨by rw [HF.out]; rfl, HBD.out⟩
end Go.Proofs.YtjdffhonljhpcaaGreat
end

section
/-
  The groups of tables in memory: a map of pointers to groups.
-/
namespace Go.Proofs.YtjdffhonljhpcaaGreat
set_option linter.unusedSimpArgs false
set_option linter.unusedVariables false
open Go.RowKit Go.Maps

/-- Two masks. -/
def eJn : Elem (Nat × Nat) where
  e := 82
  t := 71
  sz := 2
  bytes := 2
  zero := .agg #[.int .u8 0, .int .u8 0]
  code := fun x => [.int .u8 x.1, .int .u8 x.2]
  pos := by decide
  few := by decide
  len := fun _ => rfl
  one := by
    intro x u hu
    simp at hu
    rcases hu with rfl | rfl <;> rfl
  zsz := rfl
  info := by kernel_rfl
  under := Tryz.underlying71
def jnV (j : Nat × Nat) : Value := .agg #[.int .u8 j.1, .int .u8 j.2]
/-- How a pointer to a block reads. -/
def ptrElem : Value → Option (DataW Unit × List MemPlace)
  | .pointer none => some (.lit (.int .i64 (-1)), [])
  | .pointer (some a) => if a.off = 0 ∧ a.spot = none then some (.lit (.int .i64 (a.block : Int)), []) else none
  | _ => none
theorem ptrElem_inv {v : Value} {g : Nat} {ps : List MemPlace} (h : ptrElem v = some (.lit (.int .i64 (g : Int)), ps)) : v = .pointer (some ⟨g, 0, none⟩) := by
  unfold ptrElem at h
  split at h
  · simp at h <;> omega
  · next a =>
    split at h
    · next ha =>
      obtain ⟨b, o, s⟩ := a
      simp at ha h
      obtain ⟨rfl, rfl⟩ := ha
      have : b = g := by omega
      subst this
      rfl
    · cases h
  · cases h
theorem ptrElem_nil {v : Value} {ps : List MemPlace} (h : ptrElem v = some (.lit (.int .i64 (-1)), ps)) : v = .pointer none := by
  unfold ptrElem at h
  split at h
  · rfl
  · split at h
    · simp at h <;> omega
    · cases h
  · cases h
/-- Block gm is a map of at most N entries: pointers to the blocks f. -/
def GMap (w : World) (gm N : Nat) (f : Nat → Option Nat) : Prop :=
  ∃ D : DataW Unit, w.ownsMap Tryz.prog 63 ptrElem gm N D ∧ IsMap D ∧
    ∀ k : Nat, k < 256 → has D (.int .u8 k) = (f k).isSome ∧ ∀ g z, f k = some g → D.atKey (.int .u8 k) z = .lit (.int .i64 (g : Nat))
theorem GMap.kept {w w' : World} {gm N : Nat} {f : Nat → Option Nat} {row : Option Nat} (h : GMap w gm N f) (hb : w.grownBy w' row) (hne : some gm ≠ row) : GMap w' gm N f := by
  obtain ⟨D, h1, h2, h3⟩ := h
  exact ⟨D, h1.kept hb hne, h2, h3⟩
theorem GMap.below {w w' : World} {gm N : Nat} {f : Nat → Option Nat} (h : GMap w gm N f) (hb : Below w.heap.size w w') : GMap w' gm N f := by
  obtain ⟨D, h1, h2, h3⟩ := h
  exact ⟨D, World.ownsMap.kept (row := none) h1 ⟨hb.os, hb.tape, hb.output, hb.size, fun k hk _ => hb.block k hk⟩ (by simp), h2, h3⟩
theorem GMap.lt {w : World} {gm N : Nat} {f : Nat → Option Nat} (h : GMap w gm N f) : gm < w.heap.size := by
  obtain ⟨D, h1, -⟩ := h
  exact h1.lt
theorem GMap.made (w : World) : GMap (w.alloc (.map #[] 0)) w.heap.size 0 (fun _ => none) :=
  ⟨.map [], World.ownsMap_made w _ _ _, isMap_empty, fun k _ => ⟨rfl, fun g z h => by cases h⟩⟩
theorem GMap.size {w : World} {gm N : Nat} {f : Nat → Option Nat} (h : GMap w gm N f) {N' : Nat} (hN : N ≤ N') : GMap w gm N' f := by
  obtain ⟨D, h1, h2, h3⟩ := h
  exact ⟨D, h1.mono hN, h2, h3⟩
theorem u8_wf {k : Nat} (h : k < 256) : (Lit.int .u8 k).wf = true := by
  simp [Lit.wf, IntKind.min, IntKind.max, IntKind.signed, IntKind.bits]
  omega
theorem maskKeyed : Keyed Tryz.prog 63 := int_keyed Tryz.underlying63
theorem mask_key {k : Nat} (h : k < 256) : keyOf Tryz.prog 63 (.int .u8 k) = some (.int .u8 k) := keyOf_int_mk Tryz.underlying63 (u8_wf h)
section
variable {w : World} {ops : Array Oper} {rest : List Oper} {o : Oper} {a : Act} {Q : Exit → Act → World → Prop} {gm N : Nat} {f : Nat → Option Nat}
def ptrV : Option Nat → Value
  | some g => .pointer (some ⟨g, 0, none⟩)
  | none => .pointer none
/-- g, ok := m[k] -/
theorem wpList_memo_lookup (hg : o.guard = none) (m x : Operand) (hop : o.op = Op.lookup 68 m x true) (hm : a.eval m = .map (some gm)) (h : GMap w gm N f) (k : Nat) (hx : a.eval x = .int .u8 k)
    (hk : k < 256) (hz : (zeroValue 75).run Tryz.prog w = .ok (.pointer none) w)
    (hK : wpList Tryz.prog ops Q rest (a.put o.dst (.tuple #[ptrV (f k), .bool (f k).isSome])) w) : wpList Tryz.prog ops Q (o :: rest) a w := by
  obtain ⟨D, hown, hD, hf⟩ := h
  refine wpList_lookup_own_ok w hg m x 68 hop 63 75 maskKeyed Tryz.underlying68 ptrElem hz (.lit (.int .i64 (-1))) [] rfl gm N D hm hown _ _ hx (mask_key hk) fun v ps hv => ?_
  obtain ⟨e1, e2⟩ := hf k hk
  rw [e1]
  have hc : v = ptrV (f k) := by
    cases hfk : f k with
    | none =>
      rw [hfk] at e1
      rw [atKey_of_not_has (by simpa using e1)] at hv
      exact ptrElem_nil hv
    | some i =>
      rw [e2 i _ hfk] at hv
      exact ptrElem_inv hv
  rw [hc]
  exact hK
/-- m[k], where a group is. -/
theorem wpList_memo_at (hg : o.guard = none) (m x : Operand) (hop : o.op = Op.lookup 68 m x false) (hm : a.eval m = .map (some gm)) (h : GMap w gm N f) (k : Nat) (hx : a.eval x = .int .u8 k)
    (hk : k < 256) (hz : (zeroValue 75).run Tryz.prog w = .ok (.pointer none) w) (g : Nat) (hfk : f k = some g)
    (hK : wpList Tryz.prog ops Q rest (a.put o.dst (.pointer (some ⟨g, 0, none⟩))) w) : wpList Tryz.prog ops Q (o :: rest) a w := by
  obtain ⟨D, hown, hD, hf⟩ := h
  obtain ⟨v, ps, hrun, hv⟩ := hown.lookup maskKeyed Tryz.underlying68 hz (R := ptrElem) (zd := .lit (.int .i64 (-1))) (zp := []) rfl (mask_key hk)
  obtain ⟨e1, e2⟩ := hf k hk
  rw [e2 g _ hfk] at hv
  have hc := ptrElem_inv hv
  subst hc
  refine wpList_plain hg fun K' hK' => ?_
  unfold Oper.wp
  simp [execOp, hop, hm, hx, hrun, Result.andThen]
  exact hK' _ _ hK
/-- m[k] = g -/
theorem wpList_memo_update (hg : o.guard = none) (hd : o.dst = none) (m x v : Operand) (hop : o.op = Op.mapUpdate 68 m x v) (hm : a.eval m = .map (some gm)) (h : GMap w gm N f) (hN : N < 1000000) (k : Nat) (hx : a.eval x = .int .u8 k)
    (hk : k < 256) (g : Nat) (hv : a.eval v = .pointer (some ⟨g, 0, none⟩))
    (hK : ∀ w', GMap w' gm (N + 1) (fun j => if j = k then some g else f j) → w.grownBy w' (some gm) → wpList Tryz.prog ops Q rest a w') : wpList Tryz.prog ops Q (o :: rest) a w := by
  obtain ⟨D, hown, hD, hf⟩ := h
  have hput : a.put o.dst undef = a := by rw [hd]; rfl
  refine wpList_mapUpdate_in w hg m x v 68 hop 63 75 maskKeyed Tryz.underlying68 ptrElem gm N D hm hown (by unfold maxLen; omega) _ _ _ hx hv (mask_key hk) (.lit (.int .i64 (g : Int))) [] (by simp [ptrElem]) fun w' hown' ht => ?_
  rw [hput]
  refine hK w' ⟨_, hown', hD.put _ _, fun j hj1 => ?_⟩ ht.grown
  by_cases hj : j = k
  · subst hj
    simp only [if_true]
    refine ⟨by rw [has_put_same hD (by simp [WideAt.IsKeyLit])]; rfl, fun i' z hi' => ?_⟩
    obtain rfl := Option.some.inj hi'
    exact atKey_put_same hD (by simp [WideAt.IsKeyLit]) _ z
  · simp only [if_neg hj]
    have hne : (Lit.int .u8 j) ≠ (Lit.int .u8 k) := by simp; omega
    obtain ⟨e1, e2⟩ := hf j hj1
    exact ⟨by rw [has_put_other hne]; exact e1, fun i' z hi' => by rw [atKey_put_other hne]; exact e2 i' z hi'⟩
end
/-- A group of tables in memory. -/
structure Gb where
  g : Nat
  ja : Option Addr
  jc : Nat
  js : List (Nat × Nat)
  bv : Value
  ov : Value
def Gb.cells (x : Gb) : List Value := [.slice x.ja x.js.length x.jc, x.bv, x.ov]
/-- The groups F lie among the blocks from B on. -/
structure MemoAt (w : World) (B gm N : Nat) (F : Nat → Option Gb) : Prop where
  map : GMap w gm N (fun k => (F k).map Gb.g)
  mlo : B ≤ gm
  blk : ∀ k x, F k = some x → Blk w x.g 74 x.cells
  row : ∀ k x, F k = some x → EOwn eJn w B x.ja x.jc x.js
  lo : ∀ k x, F k = some x → B ≤ x.g
  inj : ∀ k k' x y, F k = some x → F k' = some y → x.g = y.g → k = k'
/-- A group's block. -/
def isGr (w : World) (i : Nat) : Prop := ∃ cs, w.heap[i]? = some (.cells cs 74 (0, 0))
def isMp (w : World) (i : Nat) : Prop := ∃ es c, w.heap[i]? = some (.map es c)
/-- Only groups' blocks and maps turn. -/
structure KeepG (w w' : World) : Prop where
  os : w'.os = w.os
  tape : w'.tape = w.tape
  output : w'.output = w.output
  size : w.heap.size ≤ w'.heap.size
  same : ∀ i, i < w.heap.size → ¬ isGr w i → ¬ isMp w i → w'.heap[i]? = w.heap[i]?
  gr : ∀ i, isGr w i → isGr w' i
  mp : ∀ i, isMp w i → isMp w' i
theorem KeepG.refl (w : World) : KeepG w w := ⟨rfl, rfl, rfl, Nat.le_refl _, fun _ _ _ _ => rfl, fun _ h => h, fun _ h => h⟩
theorem KeepG.trans {a b c : World} (h : KeepG a b) (k : KeepG b c) : KeepG a c := by
  refine ⟨k.os.trans h.os, k.tape.trans h.tape, k.output.trans h.output, Nat.le_trans h.size k.size, fun i hi hg hm => ?_, fun i hi => k.gr i (h.gr i hi), fun i hi => k.mp i (h.mp i hi)⟩
  have e := h.same i hi hg hm
  rw [← e]
  refine k.same i (Nat.lt_of_lt_of_le hi h.size) (fun ⟨cs, hc⟩ => hg ⟨cs, e ▸ hc⟩) (fun ⟨es, cl, hc⟩ => hm ⟨es, cl, e ▸ hc⟩)
theorem lt_of_some {w : World} {i : Nat} {o : Obj} (h : w.heap[i]? = some o) : i < w.heap.size := (Array.getElem?_eq_some_iff.1 h).1
theorem KeepG.of_below {w w' : World} (h : Below w.heap.size w w') : KeepG w w' :=
  ⟨h.os, h.tape, h.output, h.size, fun i hi _ _ => h.block i hi, fun i ⟨cs, hc⟩ => ⟨cs, (h.block i (lt_of_some hc)).trans hc⟩, fun i ⟨es, cl, hc⟩ => ⟨es, cl, (h.block i (lt_of_some hc)).trans hc⟩⟩
/-- A cell of a group is stored. -/
theorem KeepG.set {w : World} {g i : Nat} {cs : List Value} (h : Blk w g 74 cs) (v : Value) : KeepG w (w.setCell ⟨g, i, none⟩ v) := by
  have ho : ∀ k, k ≠ g → (w.setCell ⟨g, i, none⟩ v).heap[k]? = w.heap[k]? := fun k hk => heap_setCell_other w ⟨g, i, none⟩ k v hk
  refine ⟨rfl, rfl, rfl, by simp, fun k hk hg hm => ho k (fun e => hg (e ▸ ⟨_, h⟩)), fun k hk => ?_, fun k ⟨es, cl, hc⟩ => ⟨es, cl, (ho k (fun e => ?_)).trans hc⟩⟩
  · by_cases e : k = g
    · subst e; exact ⟨_, h.set i v⟩
    · obtain ⟨cs', hc⟩ := hk
      exact ⟨cs', (ho k e).trans hc⟩
  · subst e
    rw [h] at hc
    cases hc
/-- A map is written. -/
theorem KeepG.map {w w' : World} {gm : Nat} (hm : isMp w gm) (hg : w.grownBy w' (some gm)) (hm' : isMp w' gm) : KeepG w w' := by
  have ho : ∀ k, k < w.heap.size → k ≠ gm → w'.heap[k]? = w.heap[k]? := fun k hk hne => hg.block k hk (by simpa using hne)
  refine ⟨hg.os, hg.tape, hg.output, hg.size, fun k hk _ hn => ho k hk (fun e => hn (e ▸ hm)), fun k ⟨cs, hc⟩ => ⟨cs, (ho k (lt_of_some hc) (fun e => ?_)).trans hc⟩, fun k hk => ?_⟩
  · subst e
    obtain ⟨es, cl, h2⟩ := hm
    rw [h2] at hc
    cases hc
  · by_cases e : k = gm
    · rw [e]; exact hm'
    · obtain ⟨es, cl, hc⟩ := hk
      exact ⟨es, cl, (ho k (lt_of_some hc) e).trans hc⟩
theorem GMap.mp {w : World} {gm N : Nat} {f : Nat → Option Nat} (h : GMap w gm N f) : isMp w gm := by
  obtain ⟨D, ⟨es, cl, h1, -⟩, -⟩ := h
  exact ⟨es, cl, h1⟩
/-- An owned row is no group's block, and no map. -/
theorem EOwn.notG {α : Type} {E : Elem α} {w : World} {B c : Nat} {A : Option Addr} {L : List α} (h : EOwn E w B A c L) (hE : E.e ≠ 74) : ∀ a, A = some a → ¬ isGr w a.block ∧ ¬ isMp w a.block := by
  intro a ha
  rcases h.form with ⟨h1, -⟩ | ⟨g, rfl, -, -, -, -, cur, hcur⟩
  · rw [h1] at ha; cases ha
  · cases ha
    refine ⟨fun ⟨cs, hc⟩ => ?_, fun ⟨es, cl, hc⟩ => ?_⟩
    · rw [hcur] at hc
      exact hE (Obj.cells.inj (Option.some.inj hc)).2.1
    · rw [hcur] at hc; cases hc
theorem EOwn.keepG {α : Type} {E : Elem α} {w w' : World} {B c : Nat} {A : Option Addr} {L : List α} (h : EOwn E w B A c L) (hE : E.e ≠ 74) (hk : KeepG w w') : EOwn E w' B A c L :=
  h.keep fun a ha => hk.same _ (h.block a ha).2 (h.notG hE a ha).1 (h.notG hE a ha).2
theorem Blk.keepG {w w' : World} {g : Nat} {t : TypeId} {cs : List Value} (h : Blk w g t cs) (ht : t ≠ 74) (hk : KeepG w w') : Blk w' g t cs := by
  refine (hk.same _ h.lt (fun ⟨cs', hc⟩ => ?_) (fun ⟨es, cl, hc⟩ => ?_)).trans h
  · rw [h] at hc; cases hc; exact ht rfl
  · rw [h] at hc; cases hc
theorem MemoAt.below {w w' : World} {B gm N : Nat} {F : Nat → Option Gb} (h : MemoAt w B gm N F) (hb : Below w.heap.size w w') : MemoAt w' B gm N F :=
  ⟨h.map.below hb, h.mlo, fun k x hk => (h.blk k x hk).below hb, fun k x hk => (h.row k x hk).below hb, h.lo, h.inj⟩
/-- One group is another one. -/
theorem MemoAt.turn {w w' : World} {B gm N : Nat} {F : Nat → Option Gb} (h : MemoAt w B gm N F) {k : Nat} {x y : Gb} (hx : F k = some x) (hy : y.g = x.g) (hg : w.grownBy w' (some x.g)) (hb : Blk w' x.g 74 y.cells) (hr : EOwn eJn w' B y.ja y.jc y.js) :
    MemoAt w' B gm N (fun i => if i = k then some y else F i) := by
  have hmne : gm ≠ x.g := by
    intro e
    obtain ⟨es, cl, hc⟩ := h.map.mp
    have := h.blk k x hx
    rw [← e] at this
    rw [this] at hc
    cases hc
  have hrow : ∀ i z, F i = some z → EOwn eJn w' B z.ja z.jc z.js := fun i z hz => (h.row i z hz).kept hg (by
    cases hja : z.ja with
    | none => exact .inl rfl
    | some a =>
      refine .inr fun e => ?_
      have := ((h.row i z hz).notG (by decide) a hja).1
      simp at e
      exact this (e ▸ ⟨_, h.blk k x hx⟩))
  refine ⟨?_, h.mlo, fun i z hz => ?_, fun i z hz => ?_, fun i z hz => ?_, fun i j z u hz hu e => ?_⟩
  · have e : (fun i => (if i = k then some y else F i).map Gb.g) = fun i => (F i).map Gb.g := by
      funext i
      by_cases hi : i = k
      · subst hi; rw [if_pos rfl, hx]; simp [hy]
      · rw [if_neg hi]
    rw [e]
    exact h.map.kept hg (by simpa using hmne)
  · split at hz
    · cases hz; rw [hy]; exact hb
    · next hi => exact (h.blk i z hz).grown hg (by simp; exact fun e => hi (h.inj i k z x hz hx e))
  · split at hz
    · cases hz; exact hr
    · exact hrow i z hz
  · split at hz
    · cases hz; rw [hy]; exact h.lo k x hx
    · exact h.lo i z hz
  · split at hz <;> split at hu
    · next h1 h2 => rw [h1, h2]
    · next h1 h2 => cases hz; exact absurd (h.inj k j x u hx hu (by rw [← hy, e])).symm h2
    · next h1 h2 => cases hu; exact absurd (h.inj i k z x hz hx (by rw [← hy, e])) h1
    · exact h.inj i j z u hz hu e
/-- A group more. -/
theorem MemoAt.more {w w1 w' : World} {B gm N : Nat} {F : Nat → Option Gb} (h : MemoAt w B gm N F) (hBw : B ≤ w.heap.size) {k : Nat} (hk : F k = none) (hb1 : Blk w1 w.heap.size 74 [.slice none 0 0, .pointer none, .pointer none]) (hB : Below w.heap.size w w1) (hz : w.heap.size + 1 ≤ w1.heap.size)
    (hg : w1.grownBy w' (some gm)) (hm : GMap w' gm (N + 1) (fun j => if j = k then some w.heap.size else (F j).map Gb.g)) :
    MemoAt w' B gm (N + 1) (fun i => if i = k then some ⟨w.heap.size, none, 0, [], .pointer none, .pointer none⟩ else F i) := by
  have hmlt := h.map.lt
  have hmne : ∀ i x, F i = some x → x.g ≠ gm := by
    intro i x hx e
    obtain ⟨es, cl, hc⟩ := h.map.mp
    have := h.blk i x hx
    rw [e] at this
    rw [this] at hc
    cases hc
  refine ⟨?_, h.mlo, fun i z hz => ?_, fun i z hz => ?_, fun i z hz => ?_, fun i j z u hz hu e => ?_⟩
  · have e : (fun i => (if i = k then some (⟨w.heap.size, none, 0, [], .pointer none, .pointer none⟩ : Gb) else F i).map Gb.g) = fun j => if j = k then some w.heap.size else (F j).map Gb.g := by
      funext i
      by_cases hi : i = k
      · rw [if_pos hi, if_pos hi]; rfl
      · rw [if_neg hi, if_neg hi]
    rw [e]
    exact hm
  · split at hz
    · cases hz
      exact hb1.grown hg (by simp; omega)
    · exact ((h.blk i z hz).below hB).grown hg (by simpa using hmne i z hz)
  · split at hz
    · cases hz
      exact EOwn.nil _ _
    · refine ((h.row i z hz).below hB).kept hg ?_
      cases hja : z.ja with
      | none => exact .inl rfl
      | some a =>
        refine .inr fun e => ?_
        have := ((h.row i z hz).notG (by decide) a hja).2
        simp at e
        exact this (e ▸ h.map.mp)
  · split at hz
    · cases hz; exact hBw
    · exact h.lo i z hz
  · split at hz <;> split at hu
    · next h1 h2 => rw [h1, h2]
    · next h1 h2 => cases hz; have := (h.blk j u hu).lt; have e' : w.heap.size = u.g := e; omega
    · next h1 h2 => cases hu; have := (h.blk i z hz).lt; have e' : z.g = w.heap.size := e; omega
    · exact h.inj i j z u hz hu e
end Go.Proofs.YtjdffhonljhpcaaGreat
end

section
/-
  Plans in memory; the contract of less; whole numbers among others.
-/
namespace Go.Proofs.YtjdffhonljhpcaaGreat
set_option linter.unusedSimpArgs false
set_option linter.unusedVariables false
open Go.RowKit

/-- A plan with the places of its parts. -/
inductive Pm where
  | mk (op fr ix : Int) (ea : Option Addr) (eq : List Int) (ec : Nat) (low high cost rows : Int) (ka : Option Addr) (kids : List Pm) (kc : Nat)
namespace Pm
def op : Pm → Int | .mk op _ _ _ _ _ _ _ _ _ _ _ _ => op
def fr : Pm → Int | .mk _ fr _ _ _ _ _ _ _ _ _ _ _ => fr
def ix : Pm → Int | .mk _ _ ix _ _ _ _ _ _ _ _ _ _ => ix
def ea : Pm → Option Addr | .mk _ _ _ ea _ _ _ _ _ _ _ _ _ => ea
def eq : Pm → List Int | .mk _ _ _ _ eq _ _ _ _ _ _ _ _ => eq
def ec : Pm → Nat | .mk _ _ _ _ _ ec _ _ _ _ _ _ _ => ec
def low : Pm → Int | .mk _ _ _ _ _ _ low _ _ _ _ _ _ => low
def high : Pm → Int | .mk _ _ _ _ _ _ _ high _ _ _ _ _ => high
def cost : Pm → Int | .mk _ _ _ _ _ _ _ _ cost _ _ _ _ => cost
def rows : Pm → Int | .mk _ _ _ _ _ _ _ _ _ rows _ _ _ => rows
def ka : Pm → Option Addr | .mk _ _ _ _ _ _ _ _ _ _ ka _ _ => ka
def kids : Pm → List Pm | .mk _ _ _ _ _ _ _ _ _ _ _ kids _ => kids
def kc : Pm → Nat | .mk _ _ _ _ _ _ _ _ _ _ _ _ kc => kc
def cells (p : Pm) : List Value := [.int .i64 p.op, .int .i64 p.fr, .int .i64 p.ix, .slice p.ea p.eq.length p.ec, .int .i64 p.low, .int .i64 p.high, .int .i64 p.cost, .int .i64 p.rows, .slice p.ka p.kids.length p.kc]
def v (p : Pm) : Value := .agg p.cells.toArray
def nil : Pm := .mk 0 0 0 none [] 0 0 0 0 0 none [] 0
instance : Inhabited Pm := ⟨nil⟩
mutual
/-- The plan without places. -/
def e : Pm → Pl
  | .mk op fr ix _ eq _ low high cost rows _ kids _ => .mk op fr ix eq low high cost rows (eL kids)
def eL : List Pm → List Pl
  | [] => []
  | p :: l => e p :: eL l
end
theorem eL_map (l : List Pm) : eL l = l.map e := by
  induction l with
  | nil => rfl
  | cons p l ih => show e p :: eL l = _; rw [ih]; rfl
theorem e_eq (p : Pm) : p.e = .mk p.op p.fr p.ix p.eq p.low p.high p.cost p.rows (p.kids.map e) := by
  cases p with
  | mk op fr ix ea eq ec low high cost rows ka kids kc => show Pl.mk op fr ix eq low high cost rows (eL kids) = _; rw [eL_map]; rfl
theorem e_cost (p : Pm) : p.e.cost = p.cost := by cases p; rfl
theorem e_op (p : Pm) : p.e.op = p.op := by cases p; rfl
end Pm
def ePm : Elem Pm where
  e := 44
  t := 42
  sz := 9
  bytes := 104
  zero := Pm.nil.v
  code := fun x => x.cells
  pos := by decide
  few := by decide
  len := fun _ => rfl
  one := by
    intro x u hu
    simp [Pm.cells] at hu
    rcases hu with rfl | rfl | rfl | rfl | rfl | rfl | rfl | rfl | rfl <;> rfl
  zsz := rfl
  info := by kernel_rfl
  under := Tryz.underlying42
/-- A plan that can be read, with all its parts. -/
inductive PmIn (w : World) : Pm → Prop
  | mk {p : Pm} : EOwn eInt w 0 p.ea p.ec p.eq → EOwn ePm w 0 p.ka p.kc p.kids → (∀ k ∈ p.kids, PmIn w k) → p.eq.length ≤ 1000 → p.kids.length ≤ 1000 → PmIn w p
theorem PmIn.later {w W : World} {p : Pm} (h : PmIn w p) (hB : Below w.heap.size w W) : PmIn W p := by
  induction h with
  | mk h1 h2 h3 h4 h5 ih => exact .mk (h1.below hB) (h2.below hB) ih h4 h5
theorem PmIn.keepG {w W : World} {p : Pm} (h : PmIn w p) (hk : KeepG w W) : PmIn W p := by
  induction h with
  | mk h1 h2 h3 h4 h5 ih => exact .mk (h1.keepG (by decide) hk) (h2.keepG (by decide) hk) ih h4 h5
theorem PmIn.eqr {w : World} {p : Pm} (h : PmIn w p) : EOwn eInt w 0 p.ea p.ec p.eq := by cases h with | mk h1 => exact h1
theorem PmIn.kidr {w : World} {p : Pm} (h : PmIn w p) : EOwn ePm w 0 p.ka p.kc p.kids := by cases h with | mk h1 h2 => exact h2
theorem PmIn.kid {w : World} {p : Pm} (h : PmIn w p) : ∀ k ∈ p.kids, PmIn w k := by cases h with | mk h1 h2 h3 => exact h3
theorem PmIn.eql {w : World} {p : Pm} (h : PmIn w p) : p.eq.length ≤ 1000 := by cases h with | mk h1 h2 h3 h4 => exact h4
theorem PmIn.kidl {w : World} {p : Pm} (h : PmIn w p) : p.kids.length ≤ 1000 := by cases h with | mk h1 h2 h3 h4 h5 => exact h5
theorem PmIn.nil {w : World} : PmIn w Pm.nil := .mk (EOwn.nil _ _) (EOwn.nil _ _) (by intro k hk; cases hk) (Nat.zero_le _) (Nat.zero_le _)
theorem pm_info : (Tryz.prog.info? 44).map (·.size) = some 9 := by kernel_rfl
theorem pm_zero (W : World) : (zeroValue 44).run Tryz.prog W = .ok Pm.nil.v W := (zero_of_info (P := Tryz.prog) (t := 44) (v := Pm.nil.v) (n := 9) (by kernel_rfl)).1 W
section
variable {w : World} {ops : Array Oper} {rest : List Oper} {o : Oper} {a : Act} {Q : Exit → Act → World → Prop}
theorem wpList_alloc_pm (hgd : o.guard = none) (hop : o.op = .alloc 44)
    (h : ∀ W, Blk W w.heap.size 44 Pm.nil.cells → w.heap.size + 1 ≤ W.heap.size → Below w.heap.size w W → wpList Tryz.prog ops Q rest (a.put o.dst (.pointer (some ⟨w.heap.size, 0, none⟩))) W) : wpList Tryz.prog ops Q (o :: rest) a w :=
  wpList_alloc_z hgd 44 hop (pm_zero _) fun W hW => by
    obtain ⟨h1, h2, h3⟩ := fresh1 (a := Pm.nil.cells) hW
    exact h W h1 h2 h3
theorem wpList_store_pm (hgd : o.guard = none) (hod : o.dst = none) (x y : Operand) (hop : o.op = .store 44 x y) (g : Nat) (hx : a.eval x = .pointer (some ⟨g, 0, none⟩)) (b : Pm) (hy : a.eval y = b.v) {T0 : TypeId} {old : Pm} (hb : Blk w g T0 old.cells)
    (h : ∀ W, Blk W g T0 b.cells → w.grownBy W (some g) → wpList Tryz.prog ops Q rest a W) : wpList Tryz.prog ops Q (o :: rest) a w :=
  wpList_store_blk hgd hod 44 x y hop g hx b.cells hy hb rfl pm_info (ePm.one b) h
theorem wpList_load_pm (hgd : o.guard = none) (x : Operand) (hop : o.op = .load 44 x) (g : Nat) (hx : a.eval x = .pointer (some ⟨g, 0, none⟩)) {T0 : TypeId} {b : Pm} (hb : Blk w g T0 b.cells)
    (h : wpList Tryz.prog ops Q rest (a.put o.dst b.v) w) : wpList Tryz.prog ops Q (o :: rest) a w :=
  wpList_load_mid hgd 44 x hop g 0 hx b.cells _ (hb.range 0 b.cells fun j _ => by rw [Nat.zero_add]) Tryz.underlying44 rfl pm_info h
theorem wpList_load_pm_at (hgd : o.guard = none) (x : Operand) (hop : o.op = .load 44 x) {b off : Nat} {L : List Pm} (hr : ERow ePm w (some ⟨b, off, none⟩) L) {j : Nat} (hj : j < L.length) (p : Pm) (hp : L[j] = p) (hx : a.eval x = .pointer (some ⟨b, off + j * 9, none⟩))
    (h : wpList Tryz.prog ops Q rest (a.put o.dst p.v) w) : wpList Tryz.prog ops Q (o :: rest) a w := by
  subst hp
  obtain ⟨b', off', e, hb, hrg⟩ := hr.range hj
  cases e
  exact wpList_load_mid hgd 44 x hop b (off + j * 9) hx L[j].cells _ hrg Tryz.underlying44 rfl pm_info h
theorem wpList_box_pm (hgd : o.guard = none) (x : Operand) (hop : o.op = .box 44 x) (b : Pm) (hx : a.eval x = b.v)
    (h : ∀ W, Blk W w.heap.size 44 b.cells → w.heap.size + 1 ≤ W.heap.size → Below w.heap.size w W → wpList Tryz.prog ops Q rest (a.put o.dst (.pointer (some ⟨w.heap.size, 0, none⟩))) W) : wpList Tryz.prog ops Q (o :: rest) a w :=
  wpList_plain hgd fun _ hK => by
    unfold Oper.wp execOp
    have e : (Instr.box 44 b.v).run Tryz.prog w = .ok (.pointer (some ⟨w.heap.size, 0, none⟩)) (w.alloc (.cells b.cells.toArray 44)) := by
      simp [Instr.box, Sem.run_bind, newVar, newRow]
      rfl
    simp only [hop, hx, Sem.run_bind, e, Result.andThen_ok, Sem.run_pure]
    obtain ⟨h1, h2, h3⟩ := fresh1 (w := w) (a := b.cells) (t := 44) rfl
    exact hK _ _ (h _ h1 h2 h3)
end
theorem Blk.pm {w : World} {g : Nat} {t : TypeId} {p : Pm} (h : Blk w g t p.cells) :
    w.cell? ⟨g, 0, none⟩ = some (.int .i64 p.op) ∧ w.cell? ⟨g, 1, none⟩ = some (.int .i64 p.fr) ∧ w.cell? ⟨g, 2, none⟩ = some (.int .i64 p.ix) ∧ w.cell? ⟨g, 3, none⟩ = some (.slice p.ea p.eq.length p.ec) ∧
    w.cell? ⟨g, 4, none⟩ = some (.int .i64 p.low) ∧ w.cell? ⟨g, 5, none⟩ = some (.int .i64 p.high) ∧ w.cell? ⟨g, 6, none⟩ = some (.int .i64 p.cost) ∧ w.cell? ⟨g, 7, none⟩ = some (.int .i64 p.rows) ∧ w.cell? ⟨g, 8, none⟩ = some (.slice p.ka p.kids.length p.kc) :=
  ⟨h.cell 0, h.cell 1, h.cell 2, h.cell 3, h.cell 4, h.cell 5, h.cell 6, h.cell 7, h.cell 8⟩
/-- A plan at block g. -/
structure PmAt (w : World) (g : Nat) (l : Pl) (p : Pm) : Prop where
  b : Blk w g 44 p.cells
  i : PmIn w p
  e : p.e = l
theorem PmAt.below {w W : World} {g : Nat} {l : Pl} {p : Pm} (h : PmAt w g l p) (hB : Below w.heap.size w W) : PmAt W g l p := ⟨h.b.below hB, h.i.later hB, h.e⟩
theorem PmAt.keepG {w W : World} {g : Nat} {l : Pl} {p : Pm} (h : PmAt w g l p) (hk : KeepG w W) : PmAt W g l p := ⟨h.b.keepG (by decide) hk, h.i.keepG hk, h.e⟩
theorem PmAt.cost {w : World} {g : Nat} {l : Pl} {p : Pm} (h : PmAt w g l p) : p.cost = l.cost := by rw [← h.e, p.e_cost]
/-- A pointer to a plan, or none. -/
def OptAt (w : World) (v : Value) : Option Pl → Prop
  | none => v = .pointer none
  | some l => ∃ g p, v = .pointer (some ⟨g, 0, none⟩) ∧ PmAt w g l p
theorem OptAt.below {w W : World} {v : Value} {o : Option Pl} (h : OptAt w v o) (hB : Below w.heap.size w W) : OptAt W v o := by
  cases o with
  | none => exact h
  | some l => obtain ⟨g, p, h1, h2⟩ := h; exact ⟨g, p, h1, h2.below hB⟩
theorem OptAt.keepG {w W : World} {v : Value} {o : Option Pl} (h : OptAt w v o) (hk : KeepG w W) : OptAt W v o := by
  cases o with
  | none => exact h
  | some l => obtain ⟨g, p, h1, h2⟩ := h; exact ⟨g, p, h1, h2.keepG hk⟩
set_option maxRecDepth 20000 in
set_option maxHeartbeats 1000000 in
theorem plless_any (w : World) (v : Value) (o : Option Pl) (ho : OptAt w v o) (gb : Nat) (l : Pl) (pb : Pm) (hb : PmAt w gb l pb) : Calls Tryz.prog 34 #[v, .pointer (some ⟨gb, 0, none⟩)] w fun e w' => ∃ u, e = .returned u ∧ OptAt w u (some (Pn.lessO o l)) ∧ Below w.heap.size w w' := by
  have HB := Lib.hid hb
  obtain ⟨-, -, -, -, -, -, d6, -, -⟩ := Blk.pm hb.b.drew
  have hcb := hb.cost
  rw [hcb] at d6
  clear hb hcb
  cases o with
  | none =>
    have e : v = .pointer none := ho
    subst e
    go_enter Tryz.func34, Tryz.ntmps34
    go_upto_region 1 with fail
    refine wp_region_plan (.take 0 (.take 1 (.take 2 (.take 3 (.take 4 (.take 5 (.take 6 (.take 7 (.take 8 (.take 9 (.take 10 (.take 11 (.take 12 (.take 13 (.take 14 (.take 15 (.take 16 .fin))))))))))))))))) (by kernel_rfl) (by kernel_rfl) (by kernel_rfl) (by kernel_rfl) ?_
    repeat' (first | (refine hZ _ _ ?_; clear hZ) | (refine hZ _ ?_; clear hZ) | (refine hZ ?_; clear hZ) | rw [again_nil] | rw [walk_fin] | ((first | rw [walk_take] | rw [walk_run] | rw [again_cons]); intro Z hZ; simp only [sel, List.getElem?_toArray, List.getElem?_cons_zero, List.getElem?_cons_succ]; go_wp2_with (fail)))
    go_wp2_with fail
    go_ret
    exact ⟨_, rfl, ⟨gb, pb, rfl, HB.out⟩, (Below.refl _ _).drewR⟩
  | some la =>
    obtain ⟨ga, pa, e, ha⟩ := ho
    subst e
    have HA := Lib.hid ha
    obtain ⟨-, -, -, -, -, -, c6, -, -⟩ := Blk.pm ha.b.drew
    have hca := ha.cost
    rw [hca] at c6
    clear ha hca
    by_cases hlt : l.cost < la.cost
    · have HF : Hid (Pn.lessO (some la) l = l) := by show Pn.lessP la l = l; unfold Pn.lessP; rw [if_pos hlt]
      go_enter Tryz.func34, Tryz.ntmps34
      go_upto_region 1 with fail
      refine wp_region_plan (.take 0 (.take 1 (.take 2 (.take 3 (.take 4 (.take 5 (.take 6 (.take 7 (.take 8 (.take 9 (.take 10 (.take 11 (.take 12 (.take 13 (.take 14 (.take 15 (.take 16 .fin))))))))))))))))) (by kernel_rfl) (by kernel_rfl) (by kernel_rfl) (by kernel_rfl) ?_
      repeat' (first | (refine hZ _ _ ?_; clear hZ) | (refine hZ _ ?_; clear hZ) | (refine hZ ?_; clear hZ) | rw [again_nil] | rw [walk_fin] | ((first | rw [walk_take] | rw [walk_run] | rw [again_cons]); intro Z hZ; simp only [sel, List.getElem?_toArray, List.getElem?_cons_zero, List.getElem?_cons_succ]; go_wp2_with (fail)))
      go_wp2_with fail
      go_ret
      exact ⟨_, rfl, by rw [HF.out]; exact ⟨gb, pb, rfl, HB.out⟩, (Below.refl _ _).drewR⟩
    · have HF : Hid (Pn.lessO (some la) l = la) := by show Pn.lessP la l = la; unfold Pn.lessP; rw [if_neg hlt]
      go_enter Tryz.func34, Tryz.ntmps34
      go_upto_region 1 with fail
      refine wp_region_plan (.take 0 (.take 1 (.take 2 (.take 3 (.take 4 (.take 5 (.take 6 (.take 7 (.take 8 (.take 9 (.take 10 (.take 11 (.take 12 (.take 13 (.take 14 (.take 15 (.take 16 .fin))))))))))))))))) (by kernel_rfl) (by kernel_rfl) (by kernel_rfl) (by kernel_rfl) ?_
      repeat' (first | (refine hZ _ _ ?_; clear hZ) | (refine hZ _ ?_; clear hZ) | (refine hZ ?_; clear hZ) | rw [again_nil] | rw [walk_fin] | ((first | rw [walk_take] | rw [walk_run] | rw [again_cons]); intro Z hZ; simp only [sel, List.getElem?_toArray, List.getElem?_cons_zero, List.getElem?_cons_succ]; go_wp2_with (fail)))
      go_wp2_with fail
      go_ret
      exact ⟨_, rfl, by rw [HF.out]; exact ⟨ga, pa, rfl, HA.out⟩, (Below.refl _ _).drewR⟩
end Go.Proofs.YtjdffhonljhpcaaGreat
end

section
/-
  The contract of plan's gives: does a plan give the order?
-/
namespace Go.Proofs.YtjdffhonljhpcaaGreat
set_option linter.unusedSimpArgs false
set_option linter.unusedVariables false
open Go.RowKit

theorem ints_drop (L : List Int) (x : Int) (i : Nat) (hi : i < L.length) : (L.drop i).contains x = (x == L[i] || (L.drop (i + 1)).contains x) := by
  rw [List.drop_eq_getElem_cons hi, List.contains_cons]
set_option maxRecDepth 20000 in
set_option maxHeartbeats 1000000 in
theorem iindex_any (w : World) (A : Option Addr) (c : Nat) (L : List Int) (hL : ERow eInt w A L) (hl : L.length ≤ 1000000) (x : Int) :
    Calls Tryz.prog 63 #[.slice A L.length c, .int .i64 x] w (RetIs w (L.contains x)) := by
  have HL := Lib.hid hL
  clear hL
  obtain ⟨C, hC⟩ : ∃ C, L.contains x = C := ⟨_, rfl⟩
  have HC := Lib.hid hC
  rw [hC]
  clear hC
  go_enter Tryz.func63, Tryz.ntmps63
  go_wp2_with fail
  go_loopw [8] (fun iv wr => ∃ i : Nat, i ≤ L.length ∧ iv = .int .i64 (i : Int) ∧ Hid ((L.drop i).contains x = C ∧ w = wr)) (fun iv _ => L.length - (intOf iv).toNat)
  case atStart => exact ⟨0, Nat.zero_le _, by go_num, HC.out, rfl⟩
  case round =>
    obtain ⟨i, hi, rfl, HJ⟩ := hrel
    obtain ⟨hd, rfl⟩ := HJ.out
    have HD := Lib.hid hd
    clear HJ hd
    by_cases hlt : i < L.length
    · have hii : (i : Int) < (L.length : Int) := by omega
      obtain ⟨bb, oo, ha, -, hc⟩ := int_at HL.out hlt
      have HX : Hid ((x == L[i] || (L.drop (i + 1)).contains x) = C) := by show _ = _; rw [← ints_drop L x i hlt]; exact HD.out
      rw [ha]
      clear ha
      generalize L[i] = y at hc HX
      cases hxy : x == y with
      | true =>
        have HR : Hid (true = C) := by show _ = _; rw [← HX.out, hxy]; rfl
        go_wp2_with fail
        go_ret
        exact ⟨i, rfl, by rw [← HR.out]; exact decide_eq_true (by omega), rfl⟩
      | false =>
        have HR : Hid ((L.drop (i + 1)).contains x = C) := by show _ = _; rw [← HX.out, hxy]; rfl
        go_wp2_with fail
        go_roundw
        case rel => exact ⟨i + 1, by omega, by go_num, HR.out, trivial⟩
        case measure => simp [intOf]; omega
    · have hii : ¬ (i : Int) < (L.length : Int) := by omega
      have HR : Hid (false = C) := by
        show _ = _
        rw [← HD.out, List.drop_eq_nil_of_le (by omega)]
        rfl
      go_wp2_with fail
      go_ret
      exact ⟨-1, rfl, HR.out, rfl⟩
set_option maxRecDepth 20000 in
theorem icontains_any (w : World) (A : Option Addr) (c : Nat) (L : List Int) (hL : ERow eInt w A L) (hl : L.length ≤ 1000000) (x : Int) :
    Calls Tryz.prog 40 #[.slice A L.length c, .int .i64 x] w fun e w' => e = .returned (.bool (L.contains x)) ∧ w = w' := by
  have HL := Lib.hid hL
  clear hL
  obtain ⟨C, hC⟩ : ∃ C, L.contains x = C := ⟨_, rfl⟩
  have HC := Lib.hid (iindex_any w A c L HL.out hl x)
  rw [hC] at HC ⊢
  clear hC
  go_enter Tryz.func40, Tryz.ntmps40
  go_wp2_with fail
  refine HC.out.mono ?_
  rintro e W2 ⟨k, rfl, hk, rfl⟩
  have HK := Lib.hid hk
  clear hk
  go_wp2_with fail
  go_ret
  exact ⟨by rw [← HK.out]; rfl, rfl⟩
/-- A plan of which gives can be asked. -/
inductive GvOk (x : Pn.PX) : Pm → Prop
  | sort {p : Pm} : p.op = 5 → GvOk x p
  | kid {p k : Pm} {l : List Pm} : p.op = 3 ∨ p.op = 4 → p.kids = k :: l → GvOk x k → GvOk x p
  | seq {p : Pm} : p.op = 1 → GvOk x p
  | range {p : Pm} : p.op ≠ 5 → p.op ≠ 3 → p.op ≠ 4 → p.op ≠ 1 → 0 ≤ p.ix → p.ix < (x.defs.length : Int) → 0 ≤ p.fr → p.fr < (x.T.length : Int) → p.eq.length ≤ (x.defs.getD p.ix.toNat ⟨0, none, [], 0, false⟩).cols.length → GvOk x p
namespace Pn
theorem gives_sort {x : PX} {p : Pl} (h : p.op = 5) : gives x p = true := by
  cases p with
  | mk op fr ix eq low high cost rows kids =>
    simp only [Pl.op] at h
    unfold gives
    rw [if_pos h]
theorem gives_kid {x : PX} {p k : Pl} {l : List Pl} (h : p.op = 3 ∨ p.op = 4) (hk : p.kids = k :: l) : gives x p = gives x k := by
  cases p with
  | mk op fr ix eq low high cost rows kids =>
    simp only [Pl.op, Pl.kids] at h hk
    subst hk
    conv => lhs; unfold gives
    rw [if_neg (by omega), if_pos h]
theorem gives_seq {x : PX} {p : Pl} (h : p.op = 1) : gives x p = x.ord.isEmpty := by
  cases p with
  | mk op fr ix eq low high cost rows kids =>
    simp only [Pl.op] at h
    unfold gives
    rw [if_neg (by omega), if_neg (by omega), if_pos h]
theorem gives_range {x : PX} {p : Pl} (h5 : p.op ≠ 5) (h3 : p.op ≠ 3) (h4 : p.op ≠ 4) (h1 : p.op ≠ 1) : gives x p = givF x p.fr (x.defs.getD p.ix.toNat ⟨0, none, [], 0, false⟩).cols p.eq.length x.ord p.eq.length := by
  cases p with
  | mk op fr ix eq low high cost rows kids =>
    simp only [Pl.op] at h5 h3 h4 h1
    unfold gives
    rw [if_neg h5, if_neg (by omega), if_neg h1]
    rfl
theorem givF_drop (x : PX) (f : Int) (cols : List Int) (k : Nat) (L : List So) (i : Nat) (h : i < L.length) (next : Nat) : givF x f cols k (L.drop i) next =
    if L[i].desc = true ∨ ofT x L[i].at_ ≠ f then false
    else if (cols.take k).contains (L[i].at_ - b x f.toNat) then givF x f cols k (L.drop (i + 1)) next
    else if next < cols.length ∧ cols.getD next 0 = L[i].at_ - b x f.toNat then givF x f cols k (L.drop (i + 1)) (next + 1) else false := by
  rw [List.drop_eq_getElem_cons h]; rfl
theorem ofF_hit {x : PX} {at_ : Int} : ∀ (k i : Nat) (f : Nat), ofF x at_ i k = (f : Int) → b x f ≤ at_ ∧ at_ < endN x f
  | 0, i, f, h => by unfold ofF at h; omega
  | k + 1, i, f, h => by
    rw [ofF_drop] at h
    split at h
    · next hc => have : i = f := by omega
                 rw [← this]; exact hc
    · exact ofF_hit k (i + 1) f h
theorem ofT_hit {x : PX} {at_ : Int} {f : Nat} (h : ofT x at_ = (f : Int)) : b x f ≤ at_ ∧ at_ < endN x f := ofF_hit _ _ _ h
end Pn
set_option maxRecDepth 20000 in
set_option maxHeartbeats 8000000 in
theorem plgives_any (w : World) (p : Qp) (hp : QpIn w p) (hs : Pn.Sh p.x) (da : Option Addr) (dc : Nat) (hd : DfsIn w da p.x.defs) (l : Pm) (hl : PmIn w l) (hok : GvOk p.x l) :
    ∀ W, Below w.heap.size w W → Calls Tryz.prog 24 #[p.v, .slice da p.x.defs.length dc, l.v] W (RetBo W (Pn.gives p.x l.e)) := by
  have HP := Lib.hid hp
  have HS := Lib.hid hs
  have HDF := Lib.hid hd
  have hol := hp.ol
  clear hp hs hd
  induction hok with
  | @sort l h5 =>
    intro W hB
    have HBO := Lib.hid hB
    have HF : Hid (Pn.gives p.x l.e = true) := Pn.gives_sort (by rw [l.e_op]; exact h5)
    obtain ⟨D, hD⟩ : ∃ D, Pn.gives p.x l.e = D := ⟨_, rfl⟩
    rw [hD] at HF ⊢
    have h5b : (l.op == 5) = true := by simp [h5]
    clear hB hD h5
    go_enter Tryz.func24, Tryz.ntmps24
    go_upto_region 1 with (first | (refine wpList_box_qp rfl (.tmp 0) rfl p rfl ?_; intro W1 hb1 hz1 hB1) | (refine wpList_box_pm rfl (.tmp 2) rfl l rfl ?_; intro W2 hb2 hz2 hB2))
    have HB2 := Lib.hid (hB1.then hB2)
    obtain ⟨c0, -⟩ := Blk.pm hb2
    clear hb1 hB1 hB2 hz1 hz2 hb2
    go_wp2_with fail
    go_ret
    exact ⟨by rw [HF.out]; rfl, HB2.out⟩
  | @seq l h1 =>
    intro W hB
    have HBO := Lib.hid hB
    have HF : Hid (Pn.gives p.x l.e = p.x.ord.isEmpty) := Pn.gives_seq (by rw [l.e_op]; exact h1)
    obtain ⟨D, hD⟩ : ∃ D, Pn.gives p.x l.e = D := ⟨_, rfl⟩
    rw [hD] at HF ⊢
    have k1 : (l.op == 1) = true := by simp [h1]
    have k5 : (l.op == 5) = false := by simp [h1]
    have k3 : (l.op == 3) = false := by simp [h1]
    have k4 : (l.op == 4) = false := by simp [h1]
    have HFE : Hid (D = ((p.x.ord.length : Int) == 0)) := by
      show _ = _
      rw [HF.out]
      cases p.x.ord with
      | nil => rfl
      | cons s l => exact (beq_eq_false_iff_ne.2 (by rw [List.length_cons]; omega)).symm
    clear hB hD h1 HF
    go_enter Tryz.func24, Tryz.ntmps24
    go_upto_region 1 with (first | (refine wpList_box_qp rfl (.tmp 0) rfl p rfl ?_; intro W1 hb1 hz1 hB1) | (refine wpList_box_pm rfl (.tmp 2) rfl l rfl ?_; intro W2 hb2 hz2 hB2))
    have HB2 := Lib.hid (hB1.then hB2)
    obtain ⟨c0, -⟩ := Blk.pm hb2
    obtain ⟨-, -, -, -, -, c7⟩ := Blk.qp (hb1.below hB2)
    clear hb1 hB1 hB2 hz1 hz2 hb2
    obtain ⟨z, hz⟩ : ∃ z, ((p.x.ord.length : Int) == 0) = z := ⟨_, rfl⟩
    rw [hz] at HFE
    go_wp2_with fail
    go_ret
    exact ⟨by rw [HFE.out]; rfl, HB2.out⟩
  | @kid l k r h34 hk hok ih =>
    intro W hB
    have HBO := Lib.hid hB
    have HF : Hid (Pn.gives p.x l.e = Pn.gives p.x k.e) := Pn.gives_kid (by rw [l.e_op]; exact h34) (by rw [l.e_eq]; show l.kids.map Pm.e = _; rw [hk]; rfl)
    obtain ⟨D, hD⟩ : ∃ D, Pn.gives p.x l.e = D := ⟨_, rfl⟩
    rw [hD] at HF ⊢
    have HIK := Lib.hid (ih (hl.kid k (by rw [hk]; exact List.mem_cons_self)))
    have hl0 : 0 < l.kids.length := by rw [hk]; simp
    have hkl := hl.kidl
    have hget : l.kids[0] = k := by simp [hk]
    have HGET := Lib.hid hget
    have HKR := Lib.hid hl.kidr.row
    obtain ⟨bk, ok, hka, -, -⟩ := HKR.out.at_ hl0
    have hli : (0 : Int) < (l.kids.length : Int) := by omega
    have k5 : (l.op == 5) = false := by rcases h34 with h | h <;> rw [h] <;> rfl
    clear hD ih hl hk hok hB hget
    go_enter Tryz.func24, Tryz.ntmps24
    go_upto_region 1 with (first | (refine wpList_box_qp rfl (.tmp 0) rfl p rfl ?_; intro W1 hb1 hz1 hB1) | (refine wpList_box_pm rfl (.tmp 2) rfl l rfl ?_; intro W2 hb2 hz2 hB2))
    have HB2 := Lib.hid (hB1.then hB2)
    have HQ := Lib.hid (hb1.below hB2)
    have HL := Lib.hid hb2
    obtain ⟨c0, -, -, -, -, -, -, -, c8⟩ := Blk.pm hb2
    rw [hka] at c8
    have HK2 : Hid (ERow ePm W2.drew (some ⟨bk, ok, none⟩) l.kids) := by show ERow _ _ _ _; rw [← hka]; exact HKR.out.below (HBO.out.then HB2.out.drewR)
    obtain ⟨g3, hg3⟩ : ∃ g, W.heap.size = g := ⟨_, rfl⟩
    rw [hg3] at HQ ⊢
    generalize W1.heap.size = g5 at HL c0 c8 ⊢
    have HBD : Hid (Below W.heap.size W W2.drew) := HB2.out.drewR
    have c8d : W2.drew.cell? _ = _ := c8
    clear hb1 hB1 hB2 hz1 hz2 hb2 hg3 hka
    rcases h34 with h | h
    · have k3 : (l.op == 3) = true := by simp [h]
      clear h
      go_upto_region 6 with fail
      have hqd := HQ.out.drew
      refine wp_region_plan (.take 0 (.take 1 (.take 2 (.take 3 (.take 4 (.take 5 (.run 6 [] (.take 7 .fin)))))))) (by kernel_rfl) (by kernel_rfl) (by kernel_rfl) (by kernel_rfl) ?_
      repeat' (first | (refine hZ _ _ ?_; clear hZ) | (refine hZ _ ?_; clear hZ) | (refine hZ ?_; clear hZ) | rw [again_nil] | rw [walk_fin] | ((first | rw [walk_take] | rw [walk_run] | rw [again_cons]); intro Z hZ; simp only [sel, List.getElem?_toArray, List.getElem?_cons_zero, List.getElem?_cons_succ]; go_wp2_with (first | (refine wpList_load_qp0 rfl (.tmp 3) rfl g3 rfl hqd ?_) | (refine wpList_load_pm_at rfl (.tmp 23) rfl HK2.out hl0 k HGET.out rfl ?_))))
      refine (HIK.out W2.drew (HBO.out.then HBD.out)).mono ?_
      rintro e W4 ⟨rfl, hB4⟩
      have HB4 := Lib.hid (HBD.out.then hB4)
      clear hB4
      go_wp2_with fail
      repeat' (first | (refine hZ _ _ ?_; clear hZ) | (refine hZ _ ?_; clear hZ) | (refine hZ ?_; clear hZ) | rw [again_nil] | rw [walk_fin] | ((first | rw [walk_take] | rw [walk_run] | rw [again_cons]); intro Z hZ; simp only [sel, List.getElem?_toArray, List.getElem?_cons_zero, List.getElem?_cons_succ]; go_wp2_with (fail)))
      go_wp2_with fail
      go_ret
      exact ⟨by rw [HF.out]; rfl, HB4.out⟩
    · have k3 : (l.op == 3) = false := by simp [h]
      have k4 : (l.op == 4) = true := by simp [h]
      clear h
      go_upto_region 6 with fail
      have hqd := HQ.out.drew
      refine wp_region_plan (.take 0 (.take 1 (.take 2 (.take 3 (.take 4 (.take 5 (.run 6 [] (.take 7 .fin)))))))) (by kernel_rfl) (by kernel_rfl) (by kernel_rfl) (by kernel_rfl) ?_
      repeat' (first | (refine hZ _ _ ?_; clear hZ) | (refine hZ _ ?_; clear hZ) | (refine hZ ?_; clear hZ) | rw [again_nil] | rw [walk_fin] | ((first | rw [walk_take] | rw [walk_run] | rw [again_cons]); intro Z hZ; simp only [sel, List.getElem?_toArray, List.getElem?_cons_zero, List.getElem?_cons_succ]; go_wp2_with (first | (refine wpList_load_qp0 rfl (.tmp 3) rfl g3 rfl hqd ?_) | (refine wpList_load_pm_at rfl (.tmp 23) rfl HK2.out hl0 k HGET.out rfl ?_))))
      refine (HIK.out W2.drew (HBO.out.then HBD.out)).mono ?_
      rintro e W4 ⟨rfl, hB4⟩
      have HB4 := Lib.hid (HBD.out.then hB4)
      clear hB4
      go_wp2_with fail
      repeat' (first | (refine hZ _ _ ?_; clear hZ) | (refine hZ _ ?_; clear hZ) | (refine hZ ?_; clear hZ) | rw [again_nil] | rw [walk_fin] | ((first | rw [walk_take] | rw [walk_run] | rw [again_cons]); intro Z hZ; simp only [sel, List.getElem?_toArray, List.getElem?_cons_zero, List.getElem?_cons_succ]; go_wp2_with (fail)))
      go_wp2_with fail
      go_ret
      exact ⟨by rw [HF.out]; rfl, HB4.out⟩
  | @range l h5 h3 h4 h1 hx0 hx1 hf0 hf1 hel =>
    intro W hB
    have HBO := Lib.hid hB
    obtain ⟨i, hi⟩ : ∃ i : Nat, l.ix = (i : Int) := ⟨l.ix.toNat, by omega⟩
    obtain ⟨f, hf⟩ : ∃ f : Nat, l.fr = (f : Int) := ⟨l.fr.toNat, by omega⟩
    have hil : i < p.x.defs.length := by omega
    have hfl : f < p.x.T.length := by omega
    obtain ⟨d, hd0⟩ : ∃ d, p.x.defs[i] = d := ⟨_, rfl⟩
    have hgd : p.x.defs.getD l.ix.toNat ⟨0, none, [], 0, false⟩ = d := by rw [hi, Int.toNat_natCast, ← hd0]; simp [List.getD, hil]
    have HF : Hid (Pn.gives p.x l.e = Pn.givF p.x f d.cols l.eq.length (p.x.ord.drop 0) l.eq.length) := by
      show _ = _
      rw [Pn.gives_range (by rw [l.e_op]; exact h5) (by rw [l.e_op]; exact h3) (by rw [l.e_op]; exact h4) (by rw [l.e_op]; exact h1), l.e_eq]
      show Pn.givF p.x l.fr (p.x.defs.getD l.ix.toNat _).cols l.eq.length p.x.ord l.eq.length = _
      rw [hgd, hf]
      rfl
    obtain ⟨D, hD⟩ : ∃ D, Pn.gives p.x l.e = D := ⟨_, rfl⟩
    rw [hD] at HF ⊢
    rw [hgd] at hel
    have k5 : (l.op == 5) = false := by simp [h5]
    have k3 : (l.op == 3) = false := by simp [h3]
    have k4 : (l.op == 4) = false := by simp [h4]
    have k1 : (l.op == 1) = false := by simp [h1]
    have hdm : d ∈ p.x.defs := by rw [← hd0]; exact List.getElem_mem hil
    have hcp := HDF.out.cp d hdm
    have hcl := HDF.out.cl d hdm
    have hcp1 := hcp.1
    have hcp2 := hcp.2
    have HCR := Lib.hid (HDF.out.cr d hdm)
    have hii : (i : Int) < (p.x.defs.length : Int) := by omega
    have hdl := HDF.out.len
    have hel2 := hl.eql
    have HFL := Lib.hid (HS.out.lt f hfl)
    have hfB : f < p.x.B.length := by rw [HS.out.bl]; exact hfl
    have hfi : (f : Int) < (p.x.B.length : Int) := by omega
    have hf4 : f < 4 := by have := HS.out.t4; omega
    obtain ⟨bd, od, had, -, -, -⟩ := df_at HDF.out.r hil
    have HQ9 : Hid (∀ V, Below w.heap.size w V → V.cell? ⟨bd, od + i * 3 + 1, none⟩ = some (.slice d.a d.cols.length d.c)) := fun V hV => by
      obtain ⟨b', o', e', -, -, q1⟩ := df_at (HDF.out.r.below hV) hil
      rw [had] at e'
      cases e'
      rw [hd0] at q1
      exact q1
    rw [had]
    clear hD h5 h3 h4 h1 hx0 hx1 hf0 hf1 hB hgd hdm hcp had hd0 hl
    go_enter Tryz.func24, Tryz.ntmps24
    go_upto_region 1 with (first | (refine wpList_box_qp rfl (.tmp 0) rfl p rfl ?_; intro W1 hb1 hz1 hB1) | (refine wpList_box_pm rfl (.tmp 2) rfl l rfl ?_; intro W2 hb2 hz2 hB2))
    have HB2 := Lib.hid (hB1.then hB2)
    have HQ := Lib.hid (hb1.below hB2)
    have HL := Lib.hid hb2
    obtain ⟨g3, hg3⟩ : ∃ g, W.heap.size = g := ⟨_, rfl⟩
    rw [hg3] at HQ ⊢
    generalize W1.heap.size = g5 at HL ⊢
    obtain ⟨c0, c1, c2, c3, -⟩ := Blk.pm HL.out
    rw [hi] at c2
    have HFR := Lib.hid hf
    obtain ⟨-, -, -, -, -, c7⟩ := Blk.qp HQ.out
    have qd := HQ9.out W2 (HBO.out.then HB2.out)
    clear hb1 hB1 hB2 hz1 hz2 hb2 hg3 hi hf
    go_upto_region 12 with fail
    clear c0 c1 c2 c3 c7 qd
    go_loopw [8, 44] (fun nv iv wr => ∃ (j next : Nat), j ≤ p.x.ord.length ∧ iv = .int .i64 (j : Int) ∧ nv = .int .i64 (next : Int) ∧ next ≤ 1000 ∧ Hid (Pn.givF p.x f d.cols l.eq.length (p.x.ord.drop j) next = D ∧ Below W2.heap.size W2 wr)) (fun _ iv _ => p.x.ord.length - (intOf iv).toNat)
    case atStart => exact ⟨0, l.eq.length, Nat.zero_le _, by go_num, rfl, hel2, HF.out.symm, Below.refl _ _⟩
    case round =>
      obtain ⟨j, next, hj, rfl, rfl, hnx, HJ⟩ := hrel
      have HE := Lib.hid HJ.out.1
      have HBW := Lib.hid HJ.out.2
      clear HJ
      by_cases hlt : j < p.x.ord.length
      · have hjj : (j : Int) < (p.x.ord.length : Int) := by omega
        obtain ⟨s, hs⟩ : ∃ s, p.x.ord[j] = s := ⟨_, rfl⟩
        have HSE := Lib.hid hs
        obtain ⟨bo, oo, hao, -, -⟩ := HP.out.o.at_ hlt
        have HIW : Hid (ERow eSo wr (some ⟨bo, oo, none⟩) p.x.ord) := by show ERow _ _ _ _; rw [← hao]; exact HP.out.o.below (HBO.out.then (HB2.out.then HBW.out))
        have HX := Lib.hid HE.out
        have HX : Hid ((if s.desc = true ∨ Pn.ofT p.x s.at_ ≠ (f : Int) then false else if (d.cols.take l.eq.length).contains (s.at_ - Pn.b p.x f) then Pn.givF p.x f d.cols l.eq.length (p.x.ord.drop (j + 1)) next else if next < d.cols.length ∧ d.cols.getD next 0 = s.at_ - Pn.b p.x f then Pn.givF p.x f d.cols l.eq.length (p.x.ord.drop (j + 1)) (next + 1) else false) = D) := by
          show _ = _
          rw [← HE.out, Pn.givF_drop _ _ _ _ _ _ hlt, hs, Int.toNat_natCast]
        rw [hao]
        clear hao hs
        go_upto_region 14 with (first | (refine wpList_load_so_at rfl (.tmp 46) rfl HIW.out hlt s HSE.out rfl ?_) | (refine wpList_alloc_so rfl rfl ?_; intro W6 hb6 hz6 hB6) | (refine wpList_store_so rfl rfl (.tmp 10) (.tmp 47) rfl wr.heap.size rfl s rfl hb6 ?_; intro W7 hb7 hg7))
        have HB7 := Lib.hid (below_of_grown (HBW.out.then hB6) hg7 HBW.out.size (Nat.le_trans HBW.out.size hB6.size))
        clear hb6 hz6 hB6 hg7 HIW HSE
        generalize wr.heap.size = g10 at hb7 ⊢
        have HS7 := Lib.hid hb7
        have HBD : Hid (Below W2.heap.size W2 W7.drew) := HB7.out.drewR
        obtain ⟨e0, -⟩ := Blk.c2 hb7.drew
        obtain ⟨-, q1, -⟩ := Blk.qp (HQ.out.below HBD.out)
        obtain ⟨-, c1, -⟩ := Blk.pm (HL.out.below HBD.out)
        rw [HFR.out] at c1
        obtain ⟨bb, ob, hab, -, hc0⟩ := int_at (HP.out.b.below (HBO.out.then (HB2.out.then HBD.out))) hfB
        have hcb : W7.drew.cell? ⟨bb, ob + f, none⟩ = some (.int .i64 (Pn.b p.x f)) := by rw [← Pn.b_get hfB]; exact hc0
        rw [hab] at q1
        clear hc0 hab hb7
        refine wp_region_plan (.take 0 (.take 1 (.take 2 (.take 3 (.take 4 (.take 5 (.take 6 (.take 7 (.take 8 (.take 9 .fin)))))))))) (by kernel_rfl) (by kernel_rfl) (by kernel_rfl) (by kernel_rfl) ?_
        repeat' (first | (refine hZ _ _ ?_; clear hZ) | (refine hZ _ ?_; clear hZ) | (refine hZ ?_; clear hZ) | rw [again_nil] | rw [walk_fin] | ((first | rw [walk_take] | rw [walk_run] | rw [again_cons]); intro Z hZ; simp only [sel, List.getElem?_toArray, List.getElem?_cons_zero, List.getElem?_cons_succ]; go_wp2_with (fail)))
        go_upto_region 16 with fail
        clear e0 q1 c1 hcb
        have HBE : Hid (Below W2.heap.size W2 W7.drew.drew) := HBD.out.drewR
        obtain ⟨e0, e1, -⟩ := Blk.c2 HS7.out.drew.drew
        cases hdesc : s.desc with
        | true =>
          have HF2 : Hid (D = false) := by show _ = _; rw [← HX.out, if_pos (.inl hdesc)]
          rw [hdesc] at e1
          clear hdesc
          refine wp_region_plan (.take 0 (.take 1 (.take 2 (.take 3 (.take 4 (.take 5 (.take 7 (.take 8 (.run 6 [7, 8] (.take 9 (.take 10 (.take 11 .fin)))))))))))) (by kernel_rfl) (by kernel_rfl) (by kernel_rfl) (by kernel_rfl) ?_
          repeat' (first | (refine hZ _ _ ?_; clear hZ) | (refine hZ _ ?_; clear hZ) | (refine hZ ?_; clear hZ) | rw [again_nil] | rw [walk_fin] | ((first | rw [walk_take] | rw [walk_run] | rw [again_cons]); intro Z hZ; simp only [sel, List.getElem?_toArray, List.getElem?_cons_zero, List.getElem?_cons_succ]; go_wp2_with (fail)))
          go_wp2_with fail
          go_ret
          exact ⟨by rw [HF2.out]; rfl, HB2.out.then HBE.out⟩
        | false =>
          have HX2 : Hid ((if Pn.ofT p.x s.at_ ≠ (f : Int) then false else if (d.cols.take l.eq.length).contains (s.at_ - Pn.b p.x f) then Pn.givF p.x f d.cols l.eq.length (p.x.ord.drop (j + 1)) next else if next < d.cols.length ∧ d.cols.getD next 0 = s.at_ - Pn.b p.x f then Pn.givF p.x f d.cols l.eq.length (p.x.ord.drop (j + 1)) (next + 1) else false) = D) := by
            show _ = _
            rw [← HX.out]
            by_cases hq : Pn.ofT p.x s.at_ ≠ (f : Int)
            · rw [if_pos hq, if_pos (.inr hq)]
            · have hn : ¬ (s.desc = true ∨ Pn.ofT p.x s.at_ ≠ (f : Int)) := by
                rintro (h | h)
                · rw [hdesc] at h; cases h
                · exact hq h
              rw [if_neg hq, if_neg hn]
          rw [hdesc] at e1
          have HOF := Lib.hid (plof_any W7.drew.drew p (HP.out.below (HBO.out.then (HB2.out.then HBE.out))) s.at_)
          obtain ⟨u0, u1, u2, u3, u4, u5, u6, u7, u8⟩ := Blk.qp9 (Blk.qp90 (HQ.out.below HBE.out))
          obtain ⟨-, c1, -⟩ := Blk.pm (HL.out.below HBE.out)
          rw [HFR.out] at c1
          clear hdesc
          refine wp_region_plan (.take 0 (.take 1 (.take 2 (.take 3 (.take 4 (.take 5 (.take 7 (.take 8 (.run 6 [7, 8] (.take 9 (.take 10 (.take 11 .fin)))))))))))) (by kernel_rfl) (by kernel_rfl) (by kernel_rfl) (by kernel_rfl) ?_
          repeat' (first | (refine hZ _ _ ?_; clear hZ) | (refine hZ _ ?_; clear hZ) | (refine hZ ?_; clear hZ) | rw [again_nil] | rw [walk_fin] | ((first | rw [walk_take] | rw [walk_run] | rw [again_cons]); intro Z hZ; simp only [sel, List.getElem?_toArray, List.getElem?_cons_zero, List.getElem?_cons_succ]; go_wp2_with (fail)))
          refine (show Calls _ _ #[p.v, _] _ _ from HOF.out).mono ?_
          rintro e W9 ⟨rfl, hB9⟩
          have HB9 := Lib.hid (HBE.out.then hB9)
          replace c1 := cell_later hB9 c1
          replace e0 := cell_later hB9 e0
          replace e1 := cell_later hB9 e1
          clear hB9 u0 u1 u2 u3 u4 u5 u6 u7 u8 HOF
          by_cases hft : Pn.ofT p.x s.at_ = (f : Int)
          · have hhit := Pn.ofT_hit hft
            have hnn : ¬ (Pn.ofT p.x s.at_ ≠ (f : Int)) := fun h => h hft
            have hfl2 := HFL.out
            have HX3 : Hid ((if (d.cols.take l.eq.length).contains (s.at_ - Pn.b p.x f) then Pn.givF p.x f d.cols l.eq.length (p.x.ord.drop (j + 1)) next else if next < d.cols.length ∧ d.cols.getD next 0 = s.at_ - Pn.b p.x f then Pn.givF p.x f d.cols l.eq.length (p.x.ord.drop (j + 1)) (next + 1) else false) = D) := by show _ = _; rw [← HX2.out, if_neg hnn]
            rw [hft]
            clear hft hnn
            generalize Pn.endN p.x f = ef at hhit hfl2
            have hwr : wrap64 (s.at_ - Pn.b p.x f) = s.at_ - Pn.b p.x f := by unfold wrap64; omega
            rw [hwr]
            generalize s.at_ - Pn.b p.x f = cc at HX3 ⊢
            clear hwr hhit hfl2
            go_wp2_with fail
            repeat' (first | (refine hZ _ _ ?_; clear hZ) | (refine hZ _ ?_; clear hZ) | (refine hZ ?_; clear hZ) | rw [again_nil] | rw [walk_fin] | ((first | rw [walk_take] | rw [walk_run] | rw [again_cons]); intro Z hZ; simp only [sel, List.getElem?_toArray, List.getElem?_cons_zero, List.getElem?_cons_succ]; go_wp2_with (fail)))
            have HB10 : Hid (Below W2.heap.size W2 W9) := HB9.out
            obtain ⟨-, -, -, c3, -⟩ := Blk.pm (HL.out.below HB10.out)
            have heli : (l.eq.length : Int) ≤ (d.c : Int) := by omega
            have htk : (d.cols.take l.eq.length).length = l.eq.length := by rw [List.length_take]; omega
            have HCT := Lib.hid (icontains_any W9 d.a d.c (d.cols.take l.eq.length) (ERow.take (HCR.out.below (HBO.out.then (HB2.out.then HB10.out))) _) (by rw [htk]; omega) cc)
            rw [htk] at HCT
            clear htk
            obtain ⟨C, hC⟩ : ∃ C, (d.cols.take l.eq.length).contains cc = C := ⟨_, rfl⟩
            rw [hC] at HCT HX3
            clear hC c1 e0 e1
            go_wp2_with fail
            refine HCT.out.mono ?_
            rintro e w10 ⟨rfl, rfl⟩
            cases C with
            | true =>
              have HN : Hid (Pn.givF p.x f d.cols l.eq.length (p.x.ord.drop (j + 1)) next = D) := by show _ = _; rw [← HX3.out, if_pos rfl]
              go_wp2_with fail
              go_roundw
              case rel => exact ⟨j + 1, next, by omega, by go_num, rfl, hnx, HN.out, HB10.out⟩
              case measure => simp [intOf]; omega
            | false =>
              have HX4 : Hid ((if next < d.cols.length ∧ d.cols.getD next 0 = cc then Pn.givF p.x f d.cols l.eq.length (p.x.ord.drop (j + 1)) (next + 1) else false) = D) := by show _ = _; rw [← HX3.out]; rfl
              by_cases hn : next < d.cols.length
              · have hni : (next : Int) < (d.cols.length : Int) := by omega
                obtain ⟨bc, oc, hac, -, q2⟩ := int_at (HCR.out.below (HBO.out.then (HB2.out.then HB10.out))) hn
                obtain ⟨v, hv⟩ : ∃ v, d.cols[next] = v := ⟨_, rfl⟩
                have hgv : d.cols.getD next 0 = v := by rw [← hv]; simp [List.getD, hn]
                rw [hv] at q2
                rw [hgv] at HX4
                have hix : (Instr.indexAt 33 (.slice d.a d.cols.length d.c) (.int .i64 (next : Int))).run Tryz.prog W9 = .ok (.pointer (some ⟨bc, oc + next, none⟩)) W9 := by rw [hac]; go_simp
                clear hv hgv hac HCT
                by_cases hvc : v = cc
                · have HN : Hid (Pn.givF p.x f d.cols l.eq.length (p.x.ord.drop (j + 1)) (next + 1) = D) := by show _ = _; rw [← HX4.out, if_pos ⟨hn, hvc⟩]
                  have hvb : (v == cc) = true := by simp [hvc]
                  clear hvc
                  go_wp2_with fail
                  go_roundw
                  case rel => exact ⟨j + 1, next + 1, by omega, by go_num, by go_num, by omega, HN.out, HB10.out⟩
                  case measure => simp [intOf]; omega
                · have HN : Hid (D = false) := by show _ = _; rw [← HX4.out, if_neg (fun h => hvc h.2)]
                  have hvb : (v == cc) = false := by simp [hvc]
                  clear hvc
                  go_wp2_with fail
                  go_ret
                  exact ⟨by rw [HN.out]; rfl, HB2.out.then HB10.out⟩
              · have hni : ¬ (next : Int) < (d.cols.length : Int) := by omega
                have HN : Hid (D = false) := by show _ = _; rw [← HX4.out, if_neg (fun h => hn h.1)]
                go_wp2_with fail
                go_ret
                exact ⟨by rw [HN.out]; rfl, HB2.out.then HB10.out⟩
          · have HF2 : Hid (D = false) := by show _ = _; rw [← HX2.out, if_pos hft]
            have hftb : (Pn.ofT p.x s.at_ != (f : Int)) = true := by simp [hft]
            clear hft
            go_wp2_with fail
            repeat' (first | (refine hZ _ _ ?_; clear hZ) | (refine hZ _ ?_; clear hZ) | (refine hZ ?_; clear hZ) | rw [again_nil] | rw [walk_fin] | ((first | rw [walk_take] | rw [walk_run] | rw [again_cons]); intro Z hZ; simp only [sel, List.getElem?_toArray, List.getElem?_cons_zero, List.getElem?_cons_succ]; go_wp2_with (fail)))
            go_wp2_with fail
            go_ret
            exact ⟨by rw [HF2.out]; rfl, HB2.out.then HB9.out⟩
      · have hjj : ¬ (j : Int) < (p.x.ord.length : Int) := by omega
        have HF2 : Hid (D = true) := by show _ = _; rw [← HE.out, List.drop_eq_nil_of_le (by omega)]; rfl
        go_wp2_with fail
        go_ret
        exact ⟨by rw [HF2.out]; rfl, HB2.out.then HBW.out⟩
end Go.Proofs.YtjdffhonljhpcaaGreat
end

section
/-
  The contract of a planner's access.
-/
namespace Go.Proofs.YtjdffhonljhpcaaGreat
set_option linter.unusedSimpArgs false
set_option linter.unusedVariables false
open Go.RowKit

set_option maxRecDepth 20000 in
set_option maxHeartbeats 1000000 in
theorem iclone_any (w : World) (A : Option Addr) (c : Nat) (L : List Int) (hr : ERow eInt w A L) (hl : L.length ≤ 1000000) :
    Calls Tryz.prog 55 #[.slice A L.length c] w (RetRow eInt w L) := by
  cases A with
  | none =>
    have hl0 : L = [] := by
      cases L with
      | nil => rfl
      | cons x l => obtain ⟨b, o, h, _⟩ := hr (by simp); cases h
    subst hl0
    have hq := Lib.run_eql_slice_nil (P := Tryz.prog) w 33 3 none 0 c 0 0 Tryz.underlying33
    go_enter Tryz.func55, Tryz.ntmps55
    go_wp2_with fail
    go_ret
    exact ⟨none, 0, rfl, EOwn.nil _ _, Below.refl _ _⟩
  | some a =>
    have hq := Lib.run_eql_slice_nil (P := Tryz.prog) w 33 3 (some a) L.length c 0 0 Tryz.underlying33
    have hoe : EOwn eInt (w.alloc (.cells #[] 3)) w.heap.size (some ⟨w.heap.size, 0, none⟩) 0 [] := EOwn.new w [] (by simp [maxLen]) (Nat.le_refl _) #[] rfl
    have hrr : ERow eInt (w.alloc (.cells #[] 3)) (some a) L := hr.below ((Below.refl _ _).alloc (Nat.le_refl _) _)
    go_enter Tryz.func55, Tryz.ntmps55
    go_wp2_with (at_builtin; refine wpList_append_elems eInt rfl (.tmp 5) (.tmp 6) rfl 0 rfl hoe rfl _ rfl hrr rfl (by simp; omega) (by simp) ?_; intro A3 c3 w3 ho3 hb3 _ _)
    go_ret
    rw [List.nil_append] at ho3
    exact ⟨A3, c3, by simp, ho3, ((Below.refl _ _).alloc (Nat.le_refl _) _).trans hb3⟩
theorem EOwn.ne_own {α β : Type} {E : Elem α} {F : Elem β} {w : World} {B B' c c' : Nat} {A A' : Option Addr} {L : List α} {M : List β} (h : EOwn E w B A c L) (k : EOwn F w B' A' c' M) (hT : E.e ≠ F.e) : ∀ a, A = some a → ∀ b, A' = some b → a.block ≠ b.block := by
  intro a ha b hb e
  rcases h.form with ⟨h1, -⟩ | ⟨g, h1, -, -, -, -, cur, hg⟩
  · rw [h1] at ha; cases ha
  · rcases k.form with ⟨k1, -⟩ | ⟨g', k1, -, -, -, -, cur', hg'⟩
    · rw [k1] at hb; cases hb
    · rw [h1] at ha
      rw [k1] at hb
      cases ha
      cases hb
      simp only at e
      subst e
      rw [hg] at hg'
      exact hT (Obj.cells.inj (Option.some.inj hg')).2.1
theorem Blk.n9 {w : World} {g : Nat} {t : TypeId} {a b c d e f i j k : Value} (h : Blk w g t [a, b, c, d, e, f, i, j, k]) :
    w.cell? ⟨g, 0, none⟩ = some a ∧ w.cell? ⟨g, 1, none⟩ = some b ∧ w.cell? ⟨g, 2, none⟩ = some c ∧ w.cell? ⟨g, 3, none⟩ = some d ∧ w.cell? ⟨g, 4, none⟩ = some e ∧ w.cell? ⟨g, 5, none⟩ = some f ∧ w.cell? ⟨g, 6, none⟩ = some i ∧ w.cell? ⟨g, 7, none⟩ = some j ∧ w.cell? ⟨g, 8, none⟩ = some k :=
  ⟨h.cell 0, h.cell 1, h.cell 2, h.cell 3, h.cell 4, h.cell 5, h.cell 6, h.cell 7, h.cell 8⟩
/-- A plan without kids. -/
structure PmFlat (w : World) (p : Pm) : Prop where
  e : EOwn eInt w 0 p.ea p.ec p.eq
  k : p.kids = []
  ka : p.ka = none
  kc : p.kc = 0
  l : p.eq.length ≤ 1000
theorem PmFlat.pm {w : World} {p : Pm} (h : PmFlat w p) : PmIn w p := by
  refine .mk h.e ?_ (by rw [h.k]; intro k hk; cases hk) h.l (by rw [h.k]; exact Nat.zero_le _)
  rw [h.k, h.ka, h.kc]
  exact EOwn.nil _ _
theorem PmFlat.later {w W : World} {p : Pm} (h : PmFlat w p) (hB : Below w.heap.size w W) : PmFlat W p := ⟨h.e.below hB, h.k, h.ka, h.kc, h.l⟩
/-- A row of plans without kids that grows. -/
structure PRow (w : World) (B : Nat) (A : Option Addr) (c : Nat) (L : List Pm) : Prop where
  o : EOwn ePm w B A c L
  f : ∀ q ∈ L, PmFlat w q
theorem PRow.below {w W : World} {B : Nat} {A : Option Addr} {c : Nat} {L : List Pm} (h : PRow w B A c L) (hB : Below w.heap.size w W) : PRow W B A c L := ⟨h.o.below hB, fun q hq => (h.f q hq).later hB⟩
theorem PRow.one {w w1 : World} {B : Nat} {A A1 : Option Addr} {c c1 : Nat} {L : List Pm} (h : PRow w B A c L) {q : Pm} (hq : PmFlat w q) (ho : EOwn ePm w1 B A1 c1 (L ++ [q])) (hg : w.grownBy w1 (A.map (·.block))) : PRow w1 B A1 c1 (L ++ [q]) := by
  have keep : ∀ r, PmFlat w r → PmFlat w1 r := fun r hr => by
    refine ⟨hr.e.kept hg ?_, hr.k, hr.ka, hr.kc, hr.l⟩
    cases hre : r.ea with
    | none => exact .inl rfl
    | some a =>
      refine .inr fun e => ?_
      cases hA : A with
      | none => rw [hA] at e; simp at e
      | some b =>
        rw [hA] at e
        simp at e
        exact EOwn.ne_own hr.e h.o (by decide) a hre b hA e
  refine ⟨ho, fun r hr => ?_⟩
  rcases List.mem_append.1 hr with hr | hr
  · exact keep r (h.f r hr)
  · rw [List.mem_singleton.1 hr]; exact keep q hq
theorem PRow.turn {w w' : World} {B : Nat} {A : Option Addr} {c g : Nat} {L : List Pm} {cs : List Value} (h : PRow w B A c L) (hb : Blk w g 44 cs) (hne : ∀ b, A = some b → b.block ≠ g) (hg : w.grownBy w' (some g)) : PRow w' B A c L :=
  ⟨h.o.kept hg (by
    cases hA : A with
    | none => exact .inl rfl
    | some b => exact .inr (by simpa using hne b hA)), fun q hq => ⟨(h.f q hq).e.keptG hb (by decide) hg, (h.f q hq).k, (h.f q hq).ka, (h.f q hq).kc, (h.f q hq).l⟩⟩
/-- What access answers. -/
def RetAcc (w : World) (l : List Pl) (e : Ending) (w' : World) : Prop := ∃ A c L, e = .returned (.slice A (List.length L) c) ∧ PRow w' w.heap.size A c L ∧ L.map Pm.e = l ∧ Below w.heap.size w w'
namespace Pn
theorem accF_drop (x : PX) (f : Nat) (n : Int) (L : List Df) (i : Nat) (h : i < L.length) (out : List Pl) : accF x f n i (L.drop i) out = accF x f n (i + 1) (L.drop (i + 1)) (if fits x f i then out ++ [mkRange x f n i L[i]] else out) := by
  rw [List.drop_eq_getElem_cons h]; rfl
end Pn
namespace Pn
theorem bound_lt (x : PX) (f : Nat) (d : Df) (next : Nat) (ops : List (List UInt8)) : bound x f d next ops < (x.wh.length : Int) := by
  unfold bound
  split
  · exact (idx_lt _ _ _ _).2
  · omega
end Pn
set_option maxRecDepth 20000 in
set_option maxHeartbeats 8000000 in
theorem placc_any (w : World) (g : Nat) (X : Wp) (hb : Blk w g 61 X.cells) (hX : WpIn w X) (f : Nat) (hf : f < X.p.x.T.length) (n : Int) :
    Calls Tryz.prog 33 #[.pointer (some ⟨g, 0, none⟩), .int .i64 f, .int .i64 n] w (RetAcc w (Pn.access X.p.x f n)) := by
  have HX := Lib.hid hX
  have HB := Lib.hid hb
  have hfB : f < X.p.x.B.length := by rw [hX.s.bl]; exact hf
  have hfi : (f : Int) < (X.p.x.B.length : Int) := by omega
  have hdl := hX.d.len
  have HFL := Lib.hid (hX.s.lt f hf)
  have hf4 : f < 4 := by have := hX.s.t4; omega
  obtain ⟨hb0, hbl2⟩ := Pn.rowsAt_lt hX.s hX.rl hf
  have hbi : Pn.b X.p.x f < (X.p.x.rows.length : Int) := by omega
  obtain ⟨D, hD⟩ : ∃ D, Pn.access X.p.x f n = D := ⟨_, rfl⟩
  have HD : Hid (Pn.accF X.p.x f n 0 (X.p.x.defs.drop 0) [Pn.mkSeq X.p.x f n] = D) := hD
  rw [hD]
  have HBD : Hid (Below w.heap.size w w.drew) := (Below.refl _ _).drewR
  obtain ⟨bb, oo, ha, -, hc0⟩ := int_at (hX.q.b.below HBD.out) hfB
  have hc : w.drew.cell? ⟨bb, oo + f, none⟩ = some (.int .i64 (Pn.b X.p.x f)) := by rw [← Pn.b_get hfB]; exact hc0
  obtain ⟨br, or_, har, -, hr0⟩ := i64_at (hX.rc.r.below HBD.out) hbl2
  have hr : w.drew.cell? ⟨br, or_ + (Pn.b X.p.x f).toNat, none⟩ = some (.int .i64 (Pn.rowsAt X.p.x f)) := by rw [← Pn.rowsAt_get hbl2]; exact hr0
  obtain ⟨-, -, c11, -⟩ := Blk.wt hb.drew
  obtain ⟨c1, -⟩ := Blk.wq hb.drew
  have hbd : Blk w.drew g 61 (X.p.cells ++ (.slice X.da X.p.x.defs.length X.dc :: X.tail)) := hb.drew
  rw [ha] at c1
  rw [har] at c11
  clear hX hb hD ha har hc0 hr0 hbl2
  go_enter Tryz.func33, Tryz.ntmps33
  go_upto_region 1 with fail
  refine wp_region_plan (.take 0 (.take 1 (.take 2 (.take 3 (.take 4 (.take 5 (.take 6 (.take 7 (.take 8 (.take 9 (.take 10 (.take 11 (.take 12 (.take 13 (.take 14 (.take 15 (.take 16 (.take 17 (.take 18 (.take 19 (.take 21 (.take 22 (.take 23 (.take 24 (.take 25 (.take 26 (.take 27 (.take 28 (.take 31 (.run 20 [0, 1, 2, 3, 4, 5, 6, 7, 8, 9, 10, 11, 12, 13, 14, 21, 22, 23, 24, 25, 26, 27, 28, 31] (.take 29 (.run 30 [0, 31] (.take 32 (.run 33 [] (.take 34 .fin))))))))))))))))))))))))))))))))))) (by kernel_rfl) (by kernel_rfl) (by kernel_rfl) (by kernel_rfl) ?_
  repeat' (first | (refine hZ _ _ ?_; clear hZ) | (refine hZ _ ?_; clear hZ) | (refine hZ ?_; clear hZ) | rw [again_nil] | rw [walk_fin] | ((first | rw [walk_take] | rw [walk_run] | rw [again_cons]); intro Z hZ; simp only [sel, List.getElem?_toArray, List.getElem?_cons_zero, List.getElem?_cons_succ]; go_wp2_with (refine wpList_load_qp rfl (.tmp 27) rfl g rfl hbd ?_)))
  refine (plend_any w.drew X.p (HX.out.q.below HBD.out) f (by omega)).mono ?_
  rintro e W1 ⟨rfl, hB1⟩
  have HB1 := Lib.hid (HBD.out.then hB1)
  replace c1 := cell_later hB1 c1
  replace c11 := cell_later hB1 c11
  replace hc := cell_later hB1 hc
  replace hr := cell_later hB1 hr
  replace hbd := hbd.below hB1
  clear hB1
  have hfl := HFL.out
  obtain ⟨ef, hef⟩ : ∃ ef, Pn.endN X.p.x f = ef := ⟨_, rfl⟩
  have HEF := Lib.hid hef
  rw [hef] at hfl ⊢
  clear hef
  go_wp2_with fail
  repeat' (first | (refine hZ _ _ ?_; clear hZ) | (refine hZ _ ?_; clear hZ) | (refine hZ ?_; clear hZ) | rw [again_nil] | rw [walk_fin] | ((first | rw [walk_take] | rw [walk_run] | rw [again_cons]); intro Z hZ; simp only [sel, List.getElem?_toArray, List.getElem?_cons_zero, List.getElem?_cons_succ]; go_wp2_with (refine wpList_load_qp rfl (.tmp 27) rfl g rfl hbd ?_)))
  refine (cseq_any W1 (Pn.rowsAt X.p.x f) (ef - Pn.b X.p.x f)).mono ?_
  rintro e W2 ⟨rfl, hB2⟩
  have HB2 := Lib.hid (HB1.out.then hB2)
  replace c1 := cell_later hB2 c1
  replace c11 := cell_later hB2 c11
  replace hc := cell_later hB2 hc
  replace hr := cell_later hB2 hr
  replace hbd := hbd.below hB2
  obtain ⟨s0, hs0⟩ : ∃ s0, Pn.seq (Pn.rowsAt X.p.x f) (ef - Pn.b X.p.x f) = s0 := ⟨_, rfl⟩
  have HS0 := Lib.hid hs0
  rw [hs0]
  clear hB2 hs0 hbd
  obtain ⟨p0, hp0⟩ : ∃ p0 : Pm, p0 = .mk 1 f (-1) none [] 0 (-1) (-1) s0 n none [] 0 := ⟨_, rfl⟩
  have HP0 := Lib.hid hp0
  have HE0 : Hid (p0.e = Pn.mkSeq X.p.x f n) := by show _ = _; rw [hp0]; unfold Pn.mkSeq; rw [HEF.out, HS0.out]; rfl
  have hbs : ∀ V, (Instr.buildSlice 42 1 #[(0, .agg #[.int .i64 1, .int .i64 f, .int .i64 (-1), .slice none 0 0, .int .i64 (-1), .int .i64 (-1), .int .i64 s0, .int .i64 n, .slice none 0 0])]).run Tryz.prog V = .ok (.slice (some ⟨V.heap.size, 0, none⟩) 1 1) (V.alloc (.cells p0.cells.toArray 44)) := fun V => by
    have := run_buildSlice_one ePm p0 p0.v rfl (by decide) V
    rw [hp0] at this ⊢
    exact this
  clear hp0
  go_wp2_with fail
  repeat' (first | (refine hZ _ _ ?_; clear hZ) | (refine hZ _ ?_; clear hZ) | (refine hZ ?_; clear hZ) | rw [again_nil] | rw [walk_fin] | ((first | rw [walk_take] | rw [walk_run] | rw [again_cons]); intro Z hZ; simp only [sel, List.getElem?_toArray, List.getElem?_cons_zero, List.getElem?_cons_succ]; go_wp2_with (fail)))
  go_upto_region 2 with fail
  generalize hW3 : World.alloc W2 (.cells _ _) = W3
  obtain ⟨ba3, hz3, hB3⟩ := fresh1 hW3
  clear hW3
  have HB3 := Lib.hid (HB2.out.then hB3)
  have HR3 : Hid (PRow W3 w.heap.size (some ⟨W2.heap.size, 0, none⟩) 1 [p0]) := by
    refine ⟨Blk.own ePm ba3 [p0] (by rw [HP0.out]; rfl) (by simp [maxLen]) HB2.out.size, fun q hq => ?_⟩
    rw [List.mem_singleton.1 hq, HP0.out]
    exact ⟨EOwn.nil _ _, rfl, rfl, rfl, Nat.zero_le _⟩
  have HDL : Hid (Pn.accF X.p.x f n 0 (X.p.x.defs.drop 0) ([p0].map Pm.e) = D) := by show _ = _; rw [List.map_cons, List.map_nil, HE0.out]; exact HD.out
  obtain ⟨c9, -, -, -⟩ := Blk.wt (HB.out.below HB3.out)
  clear ba3 hz3 hB3 hbs c1 c11 hc hr
  generalize W2.heap.size = ga at HR3 ⊢
  go_upto_region 3 with fail
  clear c9
  go_loopw [7, 49] (fun ov iv wr => ∃ (i : Nat) (A : Option Addr) (c : Nat) (L : List Pm), i ≤ X.p.x.defs.length ∧ iv = .int .i64 (i : Int) ∧ ov = .slice A L.length c ∧ L.length ≤ i + 1 ∧ Hid (Pn.accF X.p.x f n i (X.p.x.defs.drop i) (L.map Pm.e) = D ∧ PRow wr w.heap.size A c L ∧ Below w.heap.size w wr)) (fun _ iv _ => X.p.x.defs.length - (intOf iv).toNat)
  case atStart => exact ⟨0, some ⟨ga, 0, none⟩, 1, [p0], Nat.zero_le _, by go_num, rfl, by simp, HDL.out, HR3.out, HB3.out⟩
  case round =>
    obtain ⟨i, A, c, L, hi, rfl, rfl, hLl, HJ⟩ := hrel
    have HE := Lib.hid HJ.out.1
    have HR := Lib.hid HJ.out.2.1
    have HBW := Lib.hid HJ.out.2.2
    clear HJ
    by_cases hlt : i < X.p.x.defs.length
    · have hii : (i : Int) < (X.p.x.defs.length : Int) := by omega
      have HBD2 : Hid (Below w.heap.size w wr.drew) := HBW.out.drewR
      have HXD := Lib.hid (HX.out.below HBD2.out)
      obtain ⟨c9, -, -, -⟩ := Blk.wt (HB.out.below HBD2.out)
      have hbd : Blk wr.drew g 61 (X.p.cells ++ (.slice X.da X.p.x.defs.length X.dc :: X.tail)) := HB.out.below HBD2.out
      go_upto_region 5 with fail
      refine wp_region_plan (.take 0 (.take 1 (.take 2 (.take 3 (.take 4 (.take 5 (.take 6 (.take 7 (.take 8 (.take 9 (.run 10 [] (.take 11 .fin)))))))))))) (by kernel_rfl) (by kernel_rfl) (by kernel_rfl) (by kernel_rfl) ?_
      repeat' (first | (refine hZ _ _ ?_; clear hZ) | (refine hZ _ ?_; clear hZ) | (refine hZ ?_; clear hZ) | rw [again_nil] | rw [walk_fin] | ((first | rw [walk_take] | rw [walk_run] | rw [again_cons]); intro Z hZ; simp only [sel, List.getElem?_toArray, List.getElem?_cons_zero, List.getElem?_cons_succ]; go_wp2_with (refine wpList_load_qp rfl (.tmp 54) rfl g rfl hbd ?_)))
      refine (plfits_any wr.drew X.p HXD.out.q HXD.out.s X.da X.dc HXD.out.d f i).mono ?_
      rintro e W4 ⟨rfl, hB4⟩
      have HB4 := Lib.hid (HBD2.out.then hB4)
      have HR4 := Lib.hid ((HR.out.below (Below.refl _ _).drewR).below hB4)
      clear hB4 hbd c9
      obtain ⟨d, hd0⟩ : ∃ d, X.p.x.defs[i] = d := ⟨_, rfl⟩
      have HD0 := Lib.hid hd0
      have HX2 : Hid (Pn.accF X.p.x f n (i + 1) (X.p.x.defs.drop (i + 1)) (if Pn.fits X.p.x f i then L.map Pm.e ++ [Pn.mkRange X.p.x f n i d] else L.map Pm.e) = D) := by show _ = _; rw [← HE.out, Pn.accF_drop _ _ _ _ _ hlt, hd0]
      clear hd0
      cases hfit : Pn.fits X.p.x f i with
      | false =>
        have HN : Hid (Pn.accF X.p.x f n (i + 1) (X.p.x.defs.drop (i + 1)) (L.map Pm.e) = D) := by show _ = _; rw [← HX2.out, hfit]; rfl
        clear hfit
        go_wp2_with fail
        repeat' (first | (refine hZ _ _ ?_; clear hZ) | (refine hZ _ ?_; clear hZ) | (refine hZ ?_; clear hZ) | rw [again_nil] | rw [walk_fin] | ((first | rw [walk_take] | rw [walk_run] | rw [again_cons]); intro Z hZ; simp only [sel, List.getElem?_toArray, List.getElem?_cons_zero, List.getElem?_cons_succ]; go_wp2_with (fail)))
        go_wp2_with fail
        go_roundw
        case rel => exact ⟨i + 1, A, c, L, by omega, by go_num, rfl, by omega, HN.out, HR4.out, HB4.out⟩
        case measure => simp [intOf]; omega
      | true =>
        have HN : Hid (Pn.accF X.p.x f n (i + 1) (X.p.x.defs.drop (i + 1)) (L.map Pm.e ++ [Pn.mkRange X.p.x f n i d]) = D) := by show _ = _; rw [← HX2.out, hfit]; rfl
        have HFD : Hid (Pn.fitsD X.p.x f d = true) := by
          show _ = _
          unfold Pn.fits at hfit
          rw [Bool.and_eq_true] at hfit
          rw [← hfit.2, Int.toNat_natCast, Int.toNat_natCast, ← HD0.out]
          simp [List.getD, hlt]
        clear hfit
        go_wp2_with fail
        repeat' (first | (refine hZ _ _ ?_; clear hZ) | (refine hZ _ ?_; clear hZ) | (refine hZ ?_; clear hZ) | rw [again_nil] | rw [walk_fin] | ((first | rw [walk_take] | rw [walk_run] | rw [again_cons]); intro Z hZ; simp only [sel, List.getElem?_toArray, List.getElem?_cons_zero, List.getElem?_cons_succ]; go_wp2_with (fail)))
        go_wp2_with fail
        have HEQ := Lib.hid (pleq_any W4 g X (HB.out.below HB4.out) (HX.out.below HB4.out) f i hf hlt (by rw [HD0.out]; exact HFD.out) 0 (by omega))
        refine HEQ.out.mono ?_
        rintro e W5 ⟨A1, c1, rfl, hO1, hB5⟩
        have HB5 := Lib.hid (HB4.out.then hB5)
        have HR5 := Lib.hid (HR4.out.below hB5)
        obtain ⟨E, hE⟩ : ∃ E, Pn.eqN X.p.x f X.p.x.defs[i] 0 = E := ⟨_, rfl⟩
        rw [hE] at hO1 ⊢
        rw [HD0.out] at hE
        have HEE := Lib.hid hE
        have hel : E.length ≤ 1000 := by
          rw [← hE]
          exact Nat.le_trans (Pn.eqN_len _ _ _ _) (HX.out.d.cl d (by rw [← HD0.out]; exact List.getElem_mem hlt))
        have HEL : Hid (∀ i ∈ E, 0 ≤ i ∧ i < (X.p.x.wh.length : Int)) := by show ∀ i ∈ E, _; rw [← hE]; exact Pn.eqN_lt _ _ _ _
        have HO1 : Hid (EOwn eInt W5 0 A1 c1 E) := hO1.mono (Nat.zero_le _)
        clear HEQ hO1 hB5 hE
        go_upto_region 7 with (first | (refine wpList_alloc_pm rfl rfl ?_; intro W6 hb6 hz6 hB6) | (refine wpList_store_pm rfl rfl (.tmp 9) (.tmp 71) rfl W5.heap.size rfl (.mk 2 f i A1 E c1 0 0 0 n none [] 0) rfl hb6 ?_; intro W7 hb7 hg7))
        have hBn : Below W5.heap.size W5 W7 := below_of_grown hB6 hg7 (Nat.le_refl _) hB6.size
        have HB7 := Lib.hid (HB5.out.then hBn)
        have HR7 := Lib.hid (HR5.out.below hBn)
        have HO7 := Lib.hid (HO1.out.below hBn)
        have hg9w : w.heap.size ≤ W5.heap.size := HB5.out.size
        have HG9 : Hid (∀ b, A = some b → b.block ≠ W5.heap.size) := fun b hb e => by have := (HR5.out.o.block b hb).2; omega
        have HG1 : Hid (∀ b, A1 = some b → b.block ≠ W5.heap.size) := fun b hb e => by have := (HO1.out.block b hb).2; omega
        clear hb6 hz6 hB6 hg7 hBn
        obtain ⟨g9, hg9⟩ : ∃ g, W5.heap.size = g := ⟨_, rfl⟩
        rw [hg9] at hb7 hg9w HG9 HG1 ⊢
        clear hg9
        -- bound into the plan at g9: world W7, signs opGt, facts HR7 (row of plans) HO7 (eq) HB7 (below) hb7 (the plan); new: world W10, facts HR10 HO10 HB10 hb10, value low, HLOW; cell 4, plan Pm.mk 2 f i A1 E c1 low 0 0 n none [] 0
        obtain ⟨-, -, -, q3, -⟩ := Blk.pm hb7
        go_wp2_with fail
        generalize hW8 : World.alloc W7 (.cells _ _) = W8
        obtain ⟨ba8, hz8, hB8⟩ := fresh1 hW8
        clear hW8
        have HS8 : Hid (ERow eStr W8 (some ⟨World.heap W7 |>.size, 0, none⟩) Pn.opGt) := Blk.row eStr ba8 _ rfl (by show 2 ≤ 9223372036854775807; decide)
        have HB8 := Lib.hid (HB7.out.then hB8)
        have HR8 := Lib.hid (HR7.out.below hB8)
        have HO8 := Lib.hid (HO7.out.below hB8)
        have h8 := (hb7).below hB8
        have HBO := Lib.hid (plbound_any W8 g X (HB.out.below HB8.out) (HX.out.below HB8.out) f i hf hlt (by rw [HD0.out]; exact HFD.out) E.length hel (some ⟨World.heap W7 |>.size, 0, none⟩) 2 Pn.opGt HS8.out (by show 2 ≤ 1000; decide))
        clear ba8 hz8 hB8 q3
        refine (show Calls _ _ _ _ _ from HBO.out).mono ?_
        rintro e W9 ⟨rfl, hB9⟩
        have HB9 := Lib.hid (HB8.out.then hB9)
        have HR9 := Lib.hid (HR8.out.below hB9)
        have HO9 := Lib.hid (HO8.out.below hB9)
        have h9 := h8.below hB9
        obtain ⟨low, hlow⟩ : ∃ k, Pn.bound X.p.x f X.p.x.defs[i] E.length Pn.opGt = k := ⟨_, rfl⟩
        rw [hlow]
        rw [HD0.out] at hlow
        have HLOW := Lib.hid hlow
        have hv4 := (Blk.pm h9).2.2.2.2.1
        have f4 := h9.free 4
        clear hB9 h8 hlow HBO HS8
        go_upto_region 8 with fail
        obtain ⟨W10, hW10⟩ : ∃ W, W9.setCell ⟨g9, 4, none⟩ (.int .i64 low) = W := ⟨_, rfl⟩
        have hg10 : W9.grownBy W10 (some g9) := by rw [← hW10]; exact grown_store W9 g9 4 _
        have hb10 : Blk W10 g9 44 (Pm.cells (Pm.mk 2 f i A1 E c1 low 0 0 n none [] 0)) := by rw [← hW10]; exact h9.set 4 (.int .i64 low)
        have HB10 : Hid (Below w.heap.size w W10) := below_of_grown HB9.out hg10 hg9w HB9.out.size
        have HR10 := Lib.hid (HR9.out.turn h9 HG9.out hg10)
        have HO10 := Lib.hid (HO9.out.keptG h9 (by decide) hg10)
        rw [hW10]
        clear hW10 hg10 h9 hv4 f4
        -- bound into the plan at g9: world W10, signs opLt, facts HR10 (row of plans) HO10 (eq) HB10 (below) hb10 (the plan); new: world W11, facts HR11 HO11 HB11 hb11, value high, HHIGH; cell 5, plan Pm.mk 2 f i A1 E c1 low high 0 n none [] 0
        obtain ⟨-, -, -, q3, -⟩ := Blk.pm hb10
        go_wp2_with fail
        generalize hW8 : World.alloc W10 (.cells _ _) = W8
        obtain ⟨ba8, hz8, hB8⟩ := fresh1 hW8
        clear hW8
        have HS8 : Hid (ERow eStr W8 (some ⟨World.heap W10 |>.size, 0, none⟩) Pn.opLt) := Blk.row eStr ba8 _ rfl (by show 2 ≤ 9223372036854775807; decide)
        have HB8 := Lib.hid (HB10.out.then hB8)
        have HR8 := Lib.hid (HR10.out.below hB8)
        have HO8 := Lib.hid (HO10.out.below hB8)
        have h8 := (hb10).below hB8
        have HBO := Lib.hid (plbound_any W8 g X (HB.out.below HB8.out) (HX.out.below HB8.out) f i hf hlt (by rw [HD0.out]; exact HFD.out) E.length hel (some ⟨World.heap W10 |>.size, 0, none⟩) 2 Pn.opLt HS8.out (by show 2 ≤ 1000; decide))
        clear ba8 hz8 hB8 q3
        refine (show Calls _ _ _ _ _ from HBO.out).mono ?_
        rintro e W9 ⟨rfl, hB9⟩
        have HB9 := Lib.hid (HB8.out.then hB9)
        have HR9 := Lib.hid (HR8.out.below hB9)
        have HO9 := Lib.hid (HO8.out.below hB9)
        have h9 := h8.below hB9
        obtain ⟨high, hlow⟩ : ∃ k, Pn.bound X.p.x f X.p.x.defs[i] E.length Pn.opLt = k := ⟨_, rfl⟩
        rw [hlow]
        rw [HD0.out] at hlow
        have HHIGH := Lib.hid hlow
        have hv4 := (Blk.pm h9).2.2.2.2.2.1
        have f4 := h9.free 5
        clear hB9 h8 hlow HBO HS8
        go_upto_region 9 with fail
        obtain ⟨W11, hW10⟩ : ∃ W, W9.setCell ⟨g9, 5, none⟩ (.int .i64 high) = W := ⟨_, rfl⟩
        have hg10 : W9.grownBy W11 (some g9) := by rw [← hW10]; exact grown_store W9 g9 5 _
        have hb11 : Blk W11 g9 44 (Pm.cells (Pm.mk 2 f i A1 E c1 low high 0 n none [] 0)) := by rw [← hW10]; exact h9.set 5 (.int .i64 high)
        have HB11 : Hid (Below w.heap.size w W11) := below_of_grown HB9.out hg10 hg9w HB9.out.size
        have HR11 := Lib.hid (HR9.out.turn h9 HG9.out hg10)
        have HO11 := Lib.hid (HO9.out.keptG h9 (by decide) hg10)
        rw [hW10]
        clear hW10 hg10 h9 hv4 f4
        have h11d := hb11.drew
        have h11l : Blk W11.drew g9 44 [.int .i64 2, .int .i64 f, .int .i64 i, .slice A1 E.length c1, .int .i64 low, .int .i64 high, .int .i64 0, .int .i64 n, .slice none 0 0] := h11d
        obtain ⟨-, -, -, q3, q4, q5, -⟩ := Blk.n9 h11l
        clear h11l
        have HB11d : Hid (Below w.heap.size w W11.drew) := HB11.out.drewR
        have HO11d : Hid (EOwn eInt W11.drew 0 A1 c1 E) := HO11.out
        have HG9w := Lib.hid hg9w
        refine wp_region_plan (.take 0 (.take 1 (.take 2 (.take 3 (.take 5 (.take 6 (.take 7 (.take 8 (.fork (.run 4 [0, 1, 5, 6, 7, 8] (.run 9 [0, 1] (.run 10 [0, 1] (.run 11 [] (.run 12 [] (.take 13 (.run 14 [] .fin))))))) (.run 9 [0, 1, 2, 3] (.run 4 [0, 1] (.run 10 [0, 1] (.run 11 [] (.run 12 [] (.take 13 (.run 14 [] .fin)))))))))))))))) (by kernel_rfl) (by kernel_rfl) (by kernel_rfl) (by kernel_rfl) ?_
        repeat' (first | (refine hZ _ _ ?_; clear hZ) | (refine hZ _ ?_; clear hZ) | (refine hZ ?_; clear hZ) | rw [again_nil] | rw [walk_fin] | ((first | rw [walk_take] | rw [walk_run] | rw [again_cons]); intro Z hZ; simp only [sel, List.getElem?_toArray, List.getElem?_cons_zero, List.getElem?_cons_succ]; go_wp2_with (fail)))
        rw [walk_fork]
        refine ⟨?_, ?_⟩
        · repeat' (first | (refine hZ _ _ ?_; clear hZ) | (refine hZ _ ?_; clear hZ) | (refine hZ ?_; clear hZ) | rw [again_nil] | rw [walk_fin] | ((first | rw [walk_take] | rw [walk_run] | rw [again_cons]); intro Z hZ; simp only [sel, List.getElem?_toArray, List.getElem?_cons_zero, List.getElem?_cons_succ]; go_wp2_with (fail)))
          refine (iclone_any W11.drew A1 c1 E HO11d.out.row (by omega)).mono ?_
          rintro e W12 ⟨A3, c3, rfl, hO3, hB12⟩
          replace q3 := cell_later hB12 q3
          replace q4 := cell_later hB12 q4
          replace q5 := cell_later hB12 q5
          have HBB : Hid (Below w.heap.size w W12) := HB11d.out.then hB12
          have h12 := h11d.below hB12
          have hBL : Below W12.heap.size W12 (W12.alloc (.cells #[.int .i64 low, .int .i64 high] 3)) := Below.alloc1 _ _
          have hoA := hO3.below hBL
          have hrA : ERow eInt (W12.alloc (.cells #[.int .i64 low, .int .i64 high] 3)) (some ⟨W12.heap.size, 0, none⟩) [low, high] := Blk.row eInt (Blk.new _ _ _) [low, high] rfl (by show 2 ≤ 9223372036854775807; decide)
          have hz12 : W11.drew.heap.size ≤ (W12.alloc (.cells #[.int .i64 low, .int .i64 high] 3)).heap.size := Nat.le_trans hB12.size hBL.size
          have HBC : Hid (Below W11.drew.heap.size W11.drew (W12.alloc (.cells #[.int .i64 low, .int .i64 high] 3))) := hB12.then hBL
          clear hO3 hB12 hBL
          go_wp2_with fail
          repeat' (first | (refine hZ _ _ ?_; clear hZ) | (refine hZ _ ?_; clear hZ) | (refine hZ ?_; clear hZ) | rw [again_nil] | rw [walk_fin] | ((first | rw [walk_take] | rw [walk_run] | rw [again_cons]); intro Z hZ; simp only [sel, List.getElem?_toArray, List.getElem?_cons_zero, List.getElem?_cons_succ]; go_wp2_with (at_builtin; refine wpList_append_elems eInt rfl (.tmp 94) (.tmp 99) rfl E.length rfl hoA rfl 2 rfl hrA rfl (by simp; omega) hz12 ?_; intro A4 c4 W14 ho4 hB14 hg4 ha4)))
          have hBt : Below W11.drew.heap.size W11.drew W14 := HBC.out.trans hB14
          clear hoA hrA hz12 HBC hB14 hg4 ha4 q3 q4 q5 h12 HBB
          -- behind append: W14, the row A4 c4 of E ++ [low, high] (ho4); hBt: since W11.drew
          have HBt : Hid (Below w.heap.size w W14) := HB11d.out.then hBt
          have hlen4 : (E ++ [low, high]).length = E.length + 2 := by simp
          have HFD4 := Lib.hid (plfound_any W14 g X (HB.out.below HBt.out) (HX.out.below HBt.out) f hf A4 c4 (E ++ [low, high]) ho4.row (by rw [hlen4]; omega) (fun k hk => by
            rcases List.mem_append.1 hk with h | h
            · exact (HEL.out k h).2
            · simp only [List.mem_cons, List.not_mem_nil, or_false] at h
              rcases h with rfl | rfl
              · rw [← HLOW.out]; exact Pn.bound_lt _ _ _ _ _
              · rw [← HHIGH.out]; exact Pn.bound_lt _ _ _ _ _))
          rw [hlen4] at HFD4
          clear hlen4 ho4
          refine HFD4.out.mono ?_
          rintro e W15 ⟨rfl, hB15⟩
          have HB15 : Hid (Below W11.drew.heap.size W11.drew W15) := hBt.then hB15
          clear hB15 hBt HFD4
          obtain ⟨fn, hfn⟩ : ∃ k, Pn.found X.p.x f (E ++ [low, high]) = k := ⟨_, rfl⟩
          have HFN := Lib.hid hfn
          rw [hfn]
          clear hfn
          go_wp2_with fail
          repeat' (first | (refine hZ _ _ ?_; clear hZ) | (refine hZ _ ?_; clear hZ) | (refine hZ ?_; clear hZ) | rw [again_nil] | rw [walk_fin] | ((first | rw [walk_take] | rw [walk_run] | rw [again_cons]); intro Z hZ; simp only [sel, List.getElem?_toArray, List.getElem?_cons_zero, List.getElem?_cons_succ]; go_wp2_with (fail)))
          refine (crange_any W15 fn).mono ?_
          rintro e W16 ⟨rfl, hB16⟩
          have HB16 : Hid (Below W11.drew.heap.size W11.drew W16) := HB15.out.then hB16
          obtain ⟨cs, hcs⟩ : ∃ k, Pn.range fn = k := ⟨_, rfl⟩
          have HCS := Lib.hid hcs
          rw [hcs]
          clear hcs hB16
          have h16 := h11d.below HB16.out
          have v6 := (Blk.pm h16).2.2.2.2.2.2.1
          have f6 := h16.free 6
          go_wp2_with fail
          repeat' (first | (refine hZ _ _ ?_; clear hZ) | (refine hZ _ ?_; clear hZ) | (refine hZ ?_; clear hZ) | rw [again_nil] | rw [walk_fin] | ((first | rw [walk_take] | rw [walk_run] | rw [again_cons]); intro Z hZ; simp only [sel, List.getElem?_toArray, List.getElem?_cons_zero, List.getElem?_cons_succ]; go_wp2_with (fail)))
          have hg17 : W16.grownBy (W16.setCell ⟨g9, 6, none⟩ (.int .i64 cs)) (some g9) := grown_store W16 g9 6 _
          have hb17 : Blk (W16.setCell ⟨g9, 6, none⟩ (.int .i64 cs)) g9 44 [.int .i64 2, .int .i64 f, .int .i64 i, .slice A1 E.length c1, .int .i64 low, .int .i64 high, .int .i64 cs, .int .i64 n, .slice none 0 0] := h16.set 6 (.int .i64 cs)
          have hBW16 : Below w.heap.size w W16 := HB11d.out.then HB16.out
          have HB17 : Hid (Below w.heap.size w (W16.setCell ⟨g9, 6, none⟩ (.int .i64 cs))) := below_of_grown hBW16 hg17 HG9w.out hBW16.size
          have HR17 := Lib.hid ((HR11.out.below (Below.refl _ _).drewR).below HB16.out |>.turn h16 HG9.out hg17)
          have HO17 := Lib.hid ((HO11d.out.below HB16.out).keptG h16 (by decide) hg17)
          generalize W16.setCell ⟨g9, 6, none⟩ (.int .i64 cs) = W17 at hb17 HB17 HR17 HO17 ⊢
          clear hg17 hBW16 h16 v6 f6
          obtain ⟨q1, hq1⟩ : ∃ q1 : Pm, Pm.mk 2 f i A1 E c1 low high cs n none [] 0 = q1 := ⟨_, rfl⟩
          have HFLQ : Hid (PmFlat W17 q1) := by rw [← hq1]; exact ⟨HO17.out, rfl, rfl, rfl, hel⟩
          have HQE : Hid (q1.e = Pn.mkRange X.p.x f n i d) := by
            show _ = _
            rw [← hq1]
            unfold Pn.mkRange
            rw [HEE.out, HLOW.out, HHIGH.out, HFN.out, HCS.out]
            rfl
          have HQA : Hid (#[.int .i64 2, .int .i64 f, .int .i64 i, .slice A1 E.length c1, .int .i64 low, .int .i64 high, .int .i64 cs, .int .i64 n, .slice none 0 0] = q1.cells.toArray) := by show _ = _; rw [← hq1]; rfl
          obtain ⟨e0, e1, e2, e3, e4, e5, e6, e7, e8⟩ := Blk.n9 hb17
          clear hq1 hb17
          have HB18 : Hid (Below W17.heap.size W17 (W17.alloc (.cells #[.int .i64 2, .int .i64 f, .int .i64 i, .slice A1 E.length c1, .int .i64 low, .int .i64 high, .int .i64 cs, .int .i64 n, .slice none 0 0] 44))) := Below.alloc1 _ _
          have HRA : Hid (ERow ePm (W17.alloc (.cells #[.int .i64 2, .int .i64 f, .int .i64 i, .slice A1 E.length c1, .int .i64 low, .int .i64 high, .int .i64 cs, .int .i64 n, .slice none 0 0] 44)) (some ⟨W17.heap.size, 0, none⟩) [q1]) := by show ERow _ _ _ _; rw [HQA.out]; exact ERow.lit ePm W17 q1 q1.cells.toArray rfl W17.heap.size rfl
          have HFL2 := Lib.hid (HFLQ.out.later HB18.out)
          have HR18 := Lib.hid (HR17.out.below HB18.out)
          have HB18 := Lib.hid (HB17.out.then HB18.out)
          have HZW := Lib.hid HB18.out.size
          have hLL : L.length ≤ 1001 := by omega
          go_wp2_with (at_builtin; refine wpList_append_elems ePm rfl (.tmp 104) (.tmp 106) rfl L.length rfl HR18.out.o rfl 1 rfl HRA.out rfl (by simp; omega) HZW.out ?_; intro A9 c9 W19 ho9 hB19 hg9 ha9)
          have HR19 := Lib.hid (HR18.out.one HFL2.out ho9 hg9)
          have HB19 : Hid (Below w.heap.size w W19) := HB18.out.trans hB19
          have HNN : Hid (Pn.accF X.p.x f n (i + 1) (X.p.x.defs.drop (i + 1)) ((L ++ [q1]).map Pm.e) = D) := by
            show _ = _
            rw [← HN.out, List.map_append, List.map_cons, List.map_nil, HQE.out]
          clear e0 e1 e2 e3 e4 e5 e6 e7 e8 ho9 hB19 hg9 ha9
          go_roundw
          case rel => exact ⟨i + 1, A9, c9, L ++ [q1], by omega, by go_num, by rw [List.length_append]; rfl, by rw [List.length_append]; simp; omega, HNN.out, HR19.out, HB19.out⟩
          case measure => simp [intOf]; omega
        · have hBL : Below W11.drew.heap.size W11.drew (W11.alloc (.cells #[.int .i64 low, .int .i64 high] 3)).drew := by show Below W11.drew.heap.size W11.drew (W11.drew.alloc _); exact Below.alloc1 _ _
          have hrA0 : ERow eInt (W11.alloc (.cells #[.int .i64 low, .int .i64 high] 3)).drew (some ⟨W11.heap.size, 0, none⟩) [low, high] := Blk.row eInt (Blk.new W11 _ _).drew [low, high] rfl (by show 2 ≤ 9223372036854775807; decide)
          have q3b := cell_later hBL q3
          have HBL := Lib.hid hBL
          have HRA0 := Lib.hid hrA0
          clear hBL hrA0
          repeat' (first | (refine hZ _ _ ?_; clear hZ) | (refine hZ _ ?_; clear hZ) | (refine hZ ?_; clear hZ) | rw [again_nil] | rw [walk_fin] | ((first | rw [walk_take] | rw [walk_run] | rw [again_cons]); intro Z hZ; simp only [sel, List.getElem?_toArray, List.getElem?_cons_zero, List.getElem?_cons_succ]; go_wp2_with (fail)))
          refine (iclone_any _ A1 c1 E (HO11d.out.row.below HBL.out) (by omega)).mono ?_
          rintro e W13 ⟨A3, c3, rfl, hO3, hB13⟩
          have HRA3 := Lib.hid (HRA0.out.below hB13)
          have HB13 := Lib.hid (HBL.out.then hB13)
          have hz13 := hB13.size
          have HZB := Lib.hid HBL.out.size
          clear hB13 q3b q3 q4 q5 HBL HRA0
          go_wp2_with fail
          repeat' (first | (refine hZ _ _ ?_; clear hZ) | (refine hZ _ ?_; clear hZ) | (refine hZ ?_; clear hZ) | rw [again_nil] | rw [walk_fin] | ((first | rw [walk_take] | rw [walk_run] | rw [again_cons]); intro Z hZ; simp only [sel, List.getElem?_toArray, List.getElem?_cons_zero, List.getElem?_cons_succ]; go_wp2_with (at_builtin; refine wpList_append_elems eInt rfl (.tmp 94) (.tmp 99) rfl E.length rfl hO3 rfl 2 rfl HRA3.out rfl (by simp; omega) hz13 ?_; intro A4 c4 W14 ho4 hB14 hg4 ha4)))
          have hBt : Below W11.drew.heap.size W11.drew W14 := HB13.out.trans (hB14.mono HZB.out)
          clear hO3 hz13 hB14 hg4 ha4 HZB HB13 HRA3
          -- behind append: W14, the row A4 c4 of E ++ [low, high] (ho4); hBt: since W11.drew
          have HBt : Hid (Below w.heap.size w W14) := HB11d.out.then hBt
          have hlen4 : (E ++ [low, high]).length = E.length + 2 := by simp
          have HFD4 := Lib.hid (plfound_any W14 g X (HB.out.below HBt.out) (HX.out.below HBt.out) f hf A4 c4 (E ++ [low, high]) ho4.row (by rw [hlen4]; omega) (fun k hk => by
            rcases List.mem_append.1 hk with h | h
            · exact (HEL.out k h).2
            · simp only [List.mem_cons, List.not_mem_nil, or_false] at h
              rcases h with rfl | rfl
              · rw [← HLOW.out]; exact Pn.bound_lt _ _ _ _ _
              · rw [← HHIGH.out]; exact Pn.bound_lt _ _ _ _ _))
          rw [hlen4] at HFD4
          clear hlen4 ho4
          refine HFD4.out.mono ?_
          rintro e W15 ⟨rfl, hB15⟩
          have HB15 : Hid (Below W11.drew.heap.size W11.drew W15) := hBt.then hB15
          clear hB15 hBt HFD4
          obtain ⟨fn, hfn⟩ : ∃ k, Pn.found X.p.x f (E ++ [low, high]) = k := ⟨_, rfl⟩
          have HFN := Lib.hid hfn
          rw [hfn]
          clear hfn
          go_wp2_with fail
          repeat' (first | (refine hZ _ _ ?_; clear hZ) | (refine hZ _ ?_; clear hZ) | (refine hZ ?_; clear hZ) | rw [again_nil] | rw [walk_fin] | ((first | rw [walk_take] | rw [walk_run] | rw [again_cons]); intro Z hZ; simp only [sel, List.getElem?_toArray, List.getElem?_cons_zero, List.getElem?_cons_succ]; go_wp2_with (fail)))
          refine (crange_any W15 fn).mono ?_
          rintro e W16 ⟨rfl, hB16⟩
          have HB16 : Hid (Below W11.drew.heap.size W11.drew W16) := HB15.out.then hB16
          obtain ⟨cs, hcs⟩ : ∃ k, Pn.range fn = k := ⟨_, rfl⟩
          have HCS := Lib.hid hcs
          rw [hcs]
          clear hcs hB16
          have h16 := h11d.below HB16.out
          have v6 := (Blk.pm h16).2.2.2.2.2.2.1
          have f6 := h16.free 6
          go_wp2_with fail
          repeat' (first | (refine hZ _ _ ?_; clear hZ) | (refine hZ _ ?_; clear hZ) | (refine hZ ?_; clear hZ) | rw [again_nil] | rw [walk_fin] | ((first | rw [walk_take] | rw [walk_run] | rw [again_cons]); intro Z hZ; simp only [sel, List.getElem?_toArray, List.getElem?_cons_zero, List.getElem?_cons_succ]; go_wp2_with (fail)))
          have hg17 : W16.grownBy (W16.setCell ⟨g9, 6, none⟩ (.int .i64 cs)) (some g9) := grown_store W16 g9 6 _
          have hb17 : Blk (W16.setCell ⟨g9, 6, none⟩ (.int .i64 cs)) g9 44 [.int .i64 2, .int .i64 f, .int .i64 i, .slice A1 E.length c1, .int .i64 low, .int .i64 high, .int .i64 cs, .int .i64 n, .slice none 0 0] := h16.set 6 (.int .i64 cs)
          have hBW16 : Below w.heap.size w W16 := HB11d.out.then HB16.out
          have HB17 : Hid (Below w.heap.size w (W16.setCell ⟨g9, 6, none⟩ (.int .i64 cs))) := below_of_grown hBW16 hg17 HG9w.out hBW16.size
          have HR17 := Lib.hid ((HR11.out.below (Below.refl _ _).drewR).below HB16.out |>.turn h16 HG9.out hg17)
          have HO17 := Lib.hid ((HO11d.out.below HB16.out).keptG h16 (by decide) hg17)
          generalize W16.setCell ⟨g9, 6, none⟩ (.int .i64 cs) = W17 at hb17 HB17 HR17 HO17 ⊢
          clear hg17 hBW16 h16 v6 f6
          obtain ⟨q1, hq1⟩ : ∃ q1 : Pm, Pm.mk 2 f i A1 E c1 low high cs n none [] 0 = q1 := ⟨_, rfl⟩
          have HFLQ : Hid (PmFlat W17 q1) := by rw [← hq1]; exact ⟨HO17.out, rfl, rfl, rfl, hel⟩
          have HQE : Hid (q1.e = Pn.mkRange X.p.x f n i d) := by
            show _ = _
            rw [← hq1]
            unfold Pn.mkRange
            rw [HEE.out, HLOW.out, HHIGH.out, HFN.out, HCS.out]
            rfl
          have HQA : Hid (#[.int .i64 2, .int .i64 f, .int .i64 i, .slice A1 E.length c1, .int .i64 low, .int .i64 high, .int .i64 cs, .int .i64 n, .slice none 0 0] = q1.cells.toArray) := by show _ = _; rw [← hq1]; rfl
          obtain ⟨e0, e1, e2, e3, e4, e5, e6, e7, e8⟩ := Blk.n9 hb17
          clear hq1 hb17
          have HB18 : Hid (Below W17.heap.size W17 (W17.alloc (.cells #[.int .i64 2, .int .i64 f, .int .i64 i, .slice A1 E.length c1, .int .i64 low, .int .i64 high, .int .i64 cs, .int .i64 n, .slice none 0 0] 44))) := Below.alloc1 _ _
          have HRA : Hid (ERow ePm (W17.alloc (.cells #[.int .i64 2, .int .i64 f, .int .i64 i, .slice A1 E.length c1, .int .i64 low, .int .i64 high, .int .i64 cs, .int .i64 n, .slice none 0 0] 44)) (some ⟨W17.heap.size, 0, none⟩) [q1]) := by show ERow _ _ _ _; rw [HQA.out]; exact ERow.lit ePm W17 q1 q1.cells.toArray rfl W17.heap.size rfl
          have HFL2 := Lib.hid (HFLQ.out.later HB18.out)
          have HR18 := Lib.hid (HR17.out.below HB18.out)
          have HB18 := Lib.hid (HB17.out.then HB18.out)
          have HZW := Lib.hid HB18.out.size
          have hLL : L.length ≤ 1001 := by omega
          go_wp2_with (at_builtin; refine wpList_append_elems ePm rfl (.tmp 104) (.tmp 106) rfl L.length rfl HR18.out.o rfl 1 rfl HRA.out rfl (by simp; omega) HZW.out ?_; intro A9 c9 W19 ho9 hB19 hg9 ha9)
          have HR19 := Lib.hid (HR18.out.one HFL2.out ho9 hg9)
          have HB19 : Hid (Below w.heap.size w W19) := HB18.out.trans hB19
          have HNN : Hid (Pn.accF X.p.x f n (i + 1) (X.p.x.defs.drop (i + 1)) ((L ++ [q1]).map Pm.e) = D) := by
            show _ = _
            rw [← HN.out, List.map_append, List.map_cons, List.map_nil, HQE.out]
          clear e0 e1 e2 e3 e4 e5 e6 e7 e8 ho9 hB19 hg9 ha9
          go_roundw
          case rel => exact ⟨i + 1, A9, c9, L ++ [q1], by omega, by go_num, by rw [List.length_append]; rfl, by rw [List.length_append]; simp; omega, HNN.out, HR19.out, HB19.out⟩
          case measure => simp [intOf]; omega
    · have hii : ¬ (i : Int) < (X.p.x.defs.length : Int) := by omega
      have HF : Hid (L.map Pm.e = D) := by show _ = _; rw [← HE.out, List.drop_eq_nil_of_le (by omega)]; rfl
      go_wp2_with fail
      go_ret
      exact ⟨A, c, L, rfl, HR.out, HF.out, HBW.out⟩
end Go.Proofs.YtjdffhonljhpcaaGreat
end

section
/-
  The contracts of add: another way to join.
-/
namespace Go.Proofs.YtjdffhonljhpcaaGreat
set_option linter.unusedSimpArgs false
set_option linter.unusedVariables false
open Go.RowKit Go.Maps

theorem guard_jn (x y : Operand) (a b : Nat × Nat) (w : World) : (eqGuard .eql 82 x y (jnV a) (jnV b)).run Tryz.prog w = .ok () w := run_eqGuard_agg w .eql _ x y _ _ (by kernel_rfl)
theorem mask_info : (Tryz.prog.info? 63).map (·.size) = some 1 := by kernel_rfl
theorem run_eql_jn (a b : Nat × Nat) (w : World) : (binOp .eql 82 (jnV a) (jnV b)).run Tryz.prog w = .ok (.bool (a == b)) w := by
  have hc : Tryz.prog.cellsOf 63 = 1 := by kernel_rfl
  obtain ⟨i, hi, -⟩ := Option.map_eq_some_iff.1 mask_info
  unfold jnV
  rw [run_eql_struct, run_equalIn_array w 9999 _ _ Tryz.underlying82 hi, hc]
  have e : (List.range 2) = [0, 1] := rfl
  rw [e]
  have h1 : ∀ p q : Int, (Op.equalIn 9999 63 (.int .u8 p) (.int .u8 q)).run Tryz.prog w = .ok (p == q) w := fun p q => run_equalIn_int w 9998 _ .u8 .u8 p q Tryz.underlying63
  have hp : ∀ (v0 v1 : Value), (part 63 #[v0, v1] 0).run Tryz.prog w = .ok v0 w ∧ (part 63 #[v0, v1] 1).run Tryz.prog w = .ok v1 w := fun v0 v1 => by
    constructor <;> simp [part, isAgg, run_underlying Tryz.underlying63]
  simp only [Op.eqItems, Sem.run_bind, Nat.zero_mul, Nat.one_mul, (hp _ _).1, (hp _ _).2, h1, Result.andThen_ok]
  obtain ⟨a1, a2⟩ := a
  obtain ⟨b1, b2⟩ := b
  have e1 : ((a1 : Int) == (b1 : Int)) = (a1 == b1) := by rw [Bool.eq_iff_iff]; simp; omega
  have e2 : ((a2 : Int) == (b2 : Int)) = (a2 == b2) := by rw [Bool.eq_iff_iff]; simp; omega
  simp only [e1, e2]
  have ep : ((a1, a2) == (b1, b2)) = ((a1 == b1) && (a2 == b2)) := rfl
  rw [ep]
  rcases h3 : (a1 == b1) with _ | _ <;> rcases h4 : (a2 == b2) with _ | _ <;> simp [hp, h1, e2, h4]
/-- Two masks in a block. -/
theorem jn_info : (Tryz.prog.info? 82).map (·.size) = some 2 := by kernel_rfl
section
variable {w : World} {ops : Array Oper} {rest : List Oper} {o : Oper} {a : Act} {Q : Exit → Act → World → Prop}
theorem wpList_box_jn (hgd : o.guard = none) (x : Operand) (hop : o.op = .box 82 x) (b : Nat × Nat) (hx : a.eval x = jnV b)
    (h : ∀ W, Blk W w.heap.size 82 [.int .u8 b.1, .int .u8 b.2] → w.heap.size + 1 ≤ W.heap.size → Below w.heap.size w W → wpList Tryz.prog ops Q rest (a.put o.dst (.pointer (some ⟨w.heap.size, 0, none⟩))) W) : wpList Tryz.prog ops Q (o :: rest) a w :=
  wpList_plain hgd fun _ hK => by
    unfold Oper.wp execOp
    have e : (Instr.box 82 (jnV b)).run Tryz.prog w = .ok (.pointer (some ⟨w.heap.size, 0, none⟩)) (w.alloc (.cells #[.int .u8 b.1, .int .u8 b.2] 82)) := by
      simp [Instr.box, Sem.run_bind, newVar, newRow]
      rfl
    simp only [hop, hx, Sem.run_bind, e, Result.andThen_ok, Sem.run_pure]
    obtain ⟨h1, h2, h3⟩ := fresh1 (w := w) (a := [.int .u8 b.1, .int .u8 b.2]) (t := 82) rfl
    exact hK _ _ (h _ h1 h2 h3)
theorem wpList_load_jn (hgd : o.guard = none) (x : Operand) (hop : o.op = .load 82 x) (g : Nat) (hx : a.eval x = .pointer (some ⟨g, 0, none⟩)) {T0 : TypeId} {b : Nat × Nat} (hb : Blk w g T0 [.int .u8 b.1, .int .u8 b.2])
    (h : wpList Tryz.prog ops Q rest (a.put o.dst (jnV b)) w) : wpList Tryz.prog ops Q (o :: rest) a w :=
  wpList_load_mid hgd 82 x hop g 0 hx [.int .u8 b.1, .int .u8 b.2] _ (hb.range 0 _ fun j _ => by rw [Nat.zero_add]) Tryz.underlying82 rfl jn_info h
theorem wpList_load_jn_at (hgd : o.guard = none) (x : Operand) (hop : o.op = .load 82 x) {b off : Nat} {L : List (Nat × Nat)} (hr : ERow eJn w (some ⟨b, off, none⟩) L) {j : Nat} (hj : j < L.length) (p : Nat × Nat) (hp : L[j] = p) (hx : a.eval x = .pointer (some ⟨b, off + j * 2, none⟩))
    (h : wpList Tryz.prog ops Q rest (a.put o.dst (jnV p)) w) : wpList Tryz.prog ops Q (o :: rest) a w := by
  subst hp
  obtain ⟨b', off', e, hb, hrg⟩ := hr.range hj
  cases e
  exact wpList_load_mid hgd 82 x hop b (off + j * 2) hx [.int .u8 L[j].1, .int .u8 L[j].2] _ hrg Tryz.underlying82 rfl jn_info h
end
/-- A place, below 0 if there is none. -/
def RetIj (w : World) (b : Bool) (e : Ending) (w' : World) : Prop := ∃ k : Int, e = .returned (.int .i64 k) ∧ decide (0 ≤ k) = b ∧ Below w.heap.size w w'
theorem idxOf_drop (L : List (Nat × Nat)) (x : Nat × Nat) (i : Nat) (hi : i < L.length) : (L.drop i).contains x = (x == L[i] || (L.drop (i + 1)).contains x) := by
  rw [List.drop_eq_getElem_cons hi, List.contains_cons]
set_option maxRecDepth 20000 in
set_option maxHeartbeats 1000000 in
theorem jindex_any (w : World) (A : Option Addr) (c : Nat) (L : List (Nat × Nat)) (hL : ERow eJn w A L) (hl : L.length ≤ 1000000) (x : Nat × Nat) :
    Calls Tryz.prog 64 #[.slice A L.length c, jnV x] w (RetIj w (L.contains x)) := by
  have HL := Lib.hid hL
  have hgj := guard_jn
  have hej := run_eql_jn
  clear hL
  obtain ⟨C, hC⟩ : ∃ C, L.contains x = C := ⟨_, rfl⟩
  have HC := Lib.hid hC
  rw [hC]
  clear hC
  go_enter Tryz.func64, Tryz.ntmps64
  go_upto_region 1 with (refine wpList_box_jn rfl (.tmp 1) rfl x rfl ?_; intro W1 hb1 hz1 hB1)
  have HB1 := Lib.hid hB1
  clear hB1 hz1
  generalize w.heap.size = g3 at hb1 ⊢
  go_wp2_with fail
  go_loopw [8] (fun iv wr => ∃ i : Nat, i ≤ L.length ∧ iv = .int .i64 (i : Int) ∧ Hid ((L.drop i).contains x = C ∧ Below W1.heap.size W1 wr)) (fun iv _ => L.length - (intOf iv).toNat)
  case atStart => exact ⟨0, Nat.zero_le _, by go_num, HC.out, Below.refl _ _⟩
  case round =>
    obtain ⟨i, hi, rfl, HJ⟩ := hrel
    by_cases hlt : i < L.length
    · have hii : (i : Int) < (L.length : Int) := by omega
      obtain ⟨bb, oo, ha, -, -⟩ := HL.out.at_ hlt
      have HIW : Hid (ERow eJn wr.drew (some ⟨bb, oo, none⟩) L) := by show ERow _ _ _ _; rw [← ha]; exact HL.out.below ((HB1.out.then HJ.out.2).drewR)
      have HTK := Lib.hid (idxOf_drop L x i hlt)
      obtain ⟨y, hy⟩ : ∃ y, L[i] = y := ⟨_, rfl⟩
      have HY := Lib.hid hy
      have hb1w := (hb1.below HJ.out.2).drew
      have HBD : Hid (Below W1.heap.size W1 wr.drew) := HJ.out.2.drewR
      rw [ha]
      clear ha hy
      go_upto_region 4 with fail
      refine wp_region_plan (.take 0 (.take 1 (.take 2 (.take 3 (.take 4 (.take 5 .fin)))))) (by kernel_rfl) (by kernel_rfl) (by kernel_rfl) (by kernel_rfl) ?_
      repeat' (first | (refine hZ _ _ ?_; clear hZ) | (refine hZ _ ?_; clear hZ) | (refine hZ ?_; clear hZ) | rw [again_nil] | rw [walk_fin] | ((first | rw [walk_take] | rw [walk_run] | rw [again_cons]); intro Z hZ; simp only [sel, List.getElem?_toArray, List.getElem?_cons_zero, List.getElem?_cons_succ]; go_wp2_with (first | (refine wpList_load_jn rfl (.tmp 3) rfl g3 rfl hb1w ?_) | (refine wpList_load_jn_at rfl (.tmp 14) rfl HIW.out hlt y HY.out rfl ?_))))
      clear hb1w
      have HBD2 := Lib.hid (HB1.out.then HBD.out)
      cases hxy : x == y with
      | true =>
        have HR : Hid (C = true) := by
          show _ = _
          rw [← HJ.out.1, HTK.out, HY.out, hxy]
          rfl
        go_wp2_with fail
        go_ret
        exact ⟨i, rfl, by rw [HR.out]; exact decide_eq_true (by omega), HBD2.out⟩
      | false =>
        have HR : Hid ((L.drop (i + 1)).contains x = C) := by
          show _ = _
          rw [← HJ.out.1, HTK.out, HY.out, hxy]
          rfl
        go_wp2_with fail
        go_roundw
        case rel => exact ⟨i + 1, by omega, by go_num, HR.out, HBD.out⟩
        case measure => simp [intOf]; omega
    · have hii : ¬ (i : Int) < (L.length : Int) := by omega
      have HR : Hid (C = false) := by
        show _ = _
        rw [← HJ.out.1, List.drop_eq_nil_of_le (by omega)]
        rfl
      go_wp2_with fail
      go_ret
      exact ⟨-1, rfl, HR.out.symm, HB1.out.then HJ.out.2⟩
set_option maxRecDepth 20000 in
theorem jcontains_any (w : World) (A : Option Addr) (c : Nat) (L : List (Nat × Nat)) (hL : ERow eJn w A L) (hl : L.length ≤ 1000000) (x : Nat × Nat) :
    Calls Tryz.prog 42 #[.slice A L.length c, jnV x] w fun e w' => e = .returned (.bool (L.contains x)) ∧ Below w.heap.size w w' := by
  have HL := Lib.hid hL
  clear hL
  obtain ⟨C, hC⟩ : ∃ C, L.contains x = C := ⟨_, rfl⟩
  have HC := Lib.hid hC
  rw [hC]
  clear hC
  go_enter Tryz.func42, Tryz.ntmps42
  go_upto_region 1 with (refine wpList_box_jn rfl (.tmp 1) rfl x rfl ?_; intro W1 hb1 hz1 hB1)
  have HB1 := Lib.hid hB1
  clear hB1 hz1
  go_wp2_with (refine wpList_load_jn rfl (.tmp 3) rfl _ rfl hb1 ?_)
  refine (jindex_any W1 A c L (HL.out.below HB1.out) hl x).mono ?_
  rintro e W2 ⟨k, rfl, hk, hB2⟩
  have HK : Hid (decide (0 ≤ k) = C) := hk.trans HC.out
  have HB2 := Lib.hid (HB1.out.then hB2)
  clear hk hB2 hb1
  go_wp2_with fail
  go_ret
  exact ⟨by rw [← HK.out]; rfl, HB2.out⟩
theorem jclip_any (w : World) (A : Option Addr) (c n : Nat) (hn : n ≤ c) (hc : c ≤ maxLen) (h0 : A = none → c = 0) :
    Calls Tryz.prog 43 #[.slice A n c] w fun e w' => e = .returned (.slice A n n) ∧ w = w' := by
  go_enter Tryz.func43, Tryz.ntmps43
  go_wp2_with fail
  go_ret
  exact ⟨rfl, rfl⟩
theorem ptrG_zero (w : World) : (zeroValue 75).run Tryz.prog w = .ok (.pointer none) w := by go_simp
/-- The groups in memory are those of m. -/
structure MemoIs (w : World) (B gm : Nat) (F : Nat → Option Gb) (m : Pn.Mm) : Prop where
  at_ : MemoAt w B gm (Pn.mcnt m) F
  ok : Pn.MOk m
  js : ∀ k, (F k).map Gb.js = Pn.mget m k
  nil : ∀ k x, F k = some x → x.bv = .pointer none ∧ x.ov = .pointer none
  size : B ≤ w.heap.size
theorem MemoIs.below {w w' : World} {B gm : Nat} {F : Nat → Option Gb} {m : Pn.Mm} (h : MemoIs w B gm F m) (hb : Below w.heap.size w w') : MemoIs w' B gm F m :=
  ⟨h.at_.below hb, h.ok, h.js, h.nil, Nat.le_trans h.size hb.size⟩
/-- What a call answers that finds other ways to join. -/
def RetMm (w : World) (B gm : Nat) (m : Pn.Mm) (b : Bool) (e : Ending) (w' : World) : Prop := e = .returned (.bool b) ∧ (∃ F, MemoIs w' B gm F m) ∧ Below B w w' ∧ KeepG w w'
/-- append to a full row, whoever's it is. -/
theorem wpList_append_full {α : Type} (E : Elem α) {w : World} {A A' : Option Addr} {L M : List α} {c' : Nat} {ops : Array Oper} {rest : List Oper} {o : Oper} {a : Act} {Q : Exit → Act → World → Prop} (hgd : o.guard = none) (s x : Operand)
    (hop : o.op = .call { callee := .builtin .append, args := #[s, x], argTypes := #[E.t, E.t] })
    (n : Nat) (hs : a.eval s = .slice A n n) (hL : ERow E w A L) (hn : n = L.length) (k : Nat) (hx : a.eval x = .slice A' k c') (hr : ERow E w A' M) (hk : k = M.length) (hM : 0 < M.length)
    (hb : L.length + M.length ≤ 1073741824) (h0 : A = none → L = [])
    (h : ∀ A1 c1 w1, EOwn E w1 w.heap.size A1 c1 (L ++ M) → Below w.heap.size w w1 → wpList Tryz.prog ops Q rest (a.put o.dst (.slice A1 (L.length + M.length) c1)) w1) : wpList Tryz.prog ops Q (o :: rest) a w := by
  subst hn hk
  obtain ⟨A1, c1, w1, hrun, h2, h3⟩ := run_append_full E (c' := c') o.type hL hr hM hb h0
  refine Lib.wpList_append_run w hgd s x _ _ hop _ _ hs hx _ _ hrun ?_
  exact h A1 c1 w1 h2 h3
set_option maxRecDepth 20000 in
set_option maxHeartbeats 4000000 in
theorem madd_any (w : World) (B gm : Nat) (F : Nat → Option Gb) (m : Pn.Mm) (hM : MemoIs w B gm F m) (a b : Nat) (ha : (Pn.mget m a).isSome) (hb : (Pn.mget m b).isSome) :
    Calls Tryz.prog 28 #[.map (some gm), .int .u8 a, .int .u8 b] w (RetMm w B gm (Pn.madd m a b).1 (Pn.madd m a b).2) := by
  have ha' : a < 16 := by have := Pn.mget_lt ha; rw [hM.ok.len] at this; exact this
  have hb' : b < 16 := by have := Pn.mget_lt hb; rw [hM.ok.len] at this; exact this
  have hab := or16 a ha' b hb'
  have ho8 := or8 a ha' b hb'
  have HM := Lib.hid hM
  have HA := Lib.hid (hM.ok.add ha hb)
  have HZ := Lib.hid ptrG_zero
  clear hM ha hb
  obtain ⟨k, hk⟩ : ∃ k, (a ||| b) = k := ⟨_, rfl⟩
  have HKK := Lib.hid hk
  rw [hk] at hab ho8
  clear hk ha' hb'
  go_enter Tryz.func28, Tryz.ntmps28
  have hjk := HM.out.js k
  cases hF : F k with
  | none =>
    have hgk : Pn.mget m k = none := by rw [← hjk, hF]; rfl
    have HGK := Lib.hid hgk
    have HF := Lib.hid hF
    have hmap := HM.out.at_.map
    clear hjk hgk
    go_upto_region 4 with (at_lookup; refine wpList_memo_lookup rfl (.tmp 10) (.tmp 13) rfl rfl hmap k rfl (by omega) (HZ.out _) ?_; simp only [hF, Option.map_none, ptrV, Option.isSome_none])
    clear hF hmap
    generalize hW1 : World.alloc w (.cells _ _) = W1
    obtain ⟨ba1, hz1, hB1⟩ := fresh1 hW1
    clear hW1
    have HB1 := Lib.hid hB1
    have HBA := Lib.hid ba1
    have HZ1 := Lib.hid hz1
    have HMP := Lib.hid (HM.out.at_.map.below hB1)
    clear ba1 hz1 hB1
    go_upto_region 5 with (at_mapUpdate; refine wpList_memo_update rfl rfl (.tmp 21) (.tmp 24) (.tmp 25) rfl rfl HMP.out (by have := Pn.mcnt_le m; have := HM.out.ok.len; omega) k rfl (by omega) w.heap.size rfl ?_; intro wx hm2 hg2)
    have hlen := HM.out.ok.len
    have hk' : k < m.length := by rw [hlen]; exact hab
    have hmore := HM.out.at_.more HM.out.size HF.out HBA.out HB1.out HZ1.out hg2 hm2
    rw [← Pn.mcnt_new hk' HGK.out []] at hmore
    obtain ⟨F1, hF1d⟩ : ∃ F1 : Nat → Option Gb, (fun i => if i = k then some ⟨w.heap.size, none, 0, [], .pointer none, .pointer none⟩ else F i) = F1 := ⟨_, rfl⟩
    rw [hF1d] at hmore
    obtain ⟨x, hxd⟩ : ∃ x : Gb, x = ⟨w.heap.size, none, 0, [], .pointer none, .pointer none⟩ := ⟨_, rfl⟩
    have hF1 : F1 k = some x := by rw [← hF1d, hxd]; exact if_pos rfl
    have hxg : w.heap.size = x.g := by rw [hxd]
    have hjs : x.js = Pn.mjs m k := by rw [hxd]; unfold Pn.mjs; rw [HGK.out]; rfl
    have HNE : Hid (x.js ≠ [] → Pn.mset m k [] = m) := fun h => absurd (by rw [hxd]) h
    have HSET : Hid (∀ l, Pn.mset (Pn.mset m k []) k l = Pn.mset m k l) := fun l => by unfold Pn.mset; rw [List.set_set]
    have hM1 : MemoIs wx B gm F1 (Pn.mset m k []) := by
      refine ⟨hmore, HM.out.ok.set hab (by intro j hj; cases hj) List.nodup_nil, fun i => ?_, fun i x hx => ?_, ?_⟩
      · rw [Pn.mget_set hk', ← hF1d]
        dsimp only
        by_cases hi : i = k
        · rw [if_pos hi, if_pos hi]; rfl
        · rw [if_neg hi, if_neg hi]; exact HM.out.js i
      · rw [← hF1d] at hx
        dsimp only at hx
        split at hx
        · cases hx; exact ⟨rfl, rfl⟩
        · exact HM.out.nil i x hx
      · have := HM.out.size; have := HB1.out.size; have := hg2.size; omega
    have HM1 := Lib.hid hM1
    have HF1 := Lib.hid hF1
    have HJ := Lib.hid hjs
    have HB : Hid (Below B w wx) := below_of_grown (HB1.out.mono HM.out.size) hg2 HM.out.at_.mlo (Nat.le_trans HM.out.size HB1.out.size)
    have HK : Hid (KeepG w wx) := (KeepG.of_below HB1.out).trans (KeepG.map HMP.out.mp hg2 hm2.mp)
    rw [hxg]
    clear hmore hF1d hxd hxg hlen hk' hm2 hg2 HMP HBA HZ1
    have hown := hM1.at_.row k x hF1
    have hfew : x.js.length ≤ 256 := by rw [hjs]; exact HM.out.ok.few k
    obtain ⟨c0, -, -, f0, -⟩ := Blk.c3 (hM1.at_.blk k x hF1)
    have hcap := hown.cap
    have hcm := hown.capMax
    have HO := Lib.hid hown
    have HA0 : Hid (x.ja = none → x.jc = 0) := fun h => by
      rcases hown.form with ⟨-, h, -⟩ | ⟨g, h1, -⟩
      · exact h
      · rw [h] at h1; cases h1
    have HA1 : Hid (x.ja = none → x.js = []) := fun h => by
      rcases hown.form with ⟨-, -, h⟩ | ⟨g, h1, -⟩
      · exact h
      · rw [h] at h1; cases h1
    clear hM1 hF1 hjs hown
    obtain ⟨C, hC⟩ : ∃ C, x.js.contains (a, b) = C := ⟨_, rfl⟩
    have HC := Lib.hid hC
    have HCC := Lib.hid (jcontains_any wx x.ja x.jc x.js HO.out.row (by omega) (a, b))
    rw [hC] at HCC
    clear hC
    go_wp2_with fail
    refine (show Calls _ _ #[_, .agg #[.int .u8 a, .int .u8 b]] _ _ from HCC.out).mono ?_
    rintro e W3 ⟨rfl, hB3⟩
    cases C with
    | true =>
      have HB3 : Hid (Below B w W3) := HB.out.trans (hB3.mono HM1.out.size)
      have HK3 : Hid (KeepG w W3) := HK.out.trans (KeepG.of_below hB3)
      have HR : Hid (MemoIs W3 B gm F1 m ∧ Pn.madd m a b = (m, false)) := by
        have e : Pn.mset m k [] = m := by first | rfl | exact HNE.out (fun h => by rw [h] at HC; cases HC.out)
        have h1 := HM1.out.below hB3
        rw [e] at h1
        refine ⟨h1, ?_⟩
        unfold Pn.madd
        rw [HKK.out, ← HJ.out, if_pos HC.out]
      clear hB3
      go_wp2_with fail
      go_ret
      exact ⟨by rw [HR.out.2]; rfl, ⟨_, by rw [HR.out.2]; exact HR.out.1⟩, HB3.out, HK3.out⟩
    | false =>
      have hM3 := HM1.out.below hB3
      have HM3 := Lib.hid hM3
      have HB3 : Hid (Below B w W3) := HB.out.trans (hB3.mono HM1.out.size)
      have HK3 : Hid (KeepG w W3) := HK.out.trans (KeepG.of_below hB3)
      obtain ⟨c0, -, -, f0, -⟩ := Blk.c3 (hM3.at_.blk k x HF1.out)
      have hown3 := (hM3.at_.row k x HF1.out).row
      have HO3 := Lib.hid hown3
      have HADD : Hid (Pn.madd m a b = (Pn.mset m k (x.js ++ [(a, b)]), true)) := by
        show _ = _
        unfold Pn.madd
        rw [HKK.out, ← HJ.out, if_neg (by rw [HC.out]; simp)]
      clear hB3 hM3 hown3
      go_wp2_with fail
      refine (jclip_any W3 x.ja x.jc x.js.length hcap hcm HA0.out).mono ?_
      rintro e w4 ⟨rfl, rfl⟩
      have hbs : ∀ w, (Instr.buildSlice 71 1 #[(0, .agg #[.int .u8 a, .int .u8 b])]).run Tryz.prog w = .ok (.slice (some ⟨w.heap.size, 0, none⟩) 1 1) (w.alloc (.cells #[.int .u8 a, .int .u8 b] 82)) := fun w => run_buildSlice_one eJn (a, b) (jnV (a, b)) rfl (by decide) w
      have HL4 : Hid (ERow eJn (W3.alloc (.cells #[.int .u8 a, .int .u8 b] 82)) (some ⟨W3.heap.size, 0, none⟩) [(a, b)]) := ERow.lit eJn W3 (a, b) _ rfl _ rfl
      have HO4 : Hid (ERow eJn (W3.alloc (.cells #[.int .u8 a, .int .u8 b] 82)) x.ja x.js) := HO3.out.below (Below.alloc1 _ _)
      have HM4 : Hid (MemoIs (W3.alloc (.cells #[.int .u8 a, .int .u8 b] 82)) B gm F1 (Pn.mset m k [])) := HM3.out.below (Below.alloc1 _ _)
      have HB4 : Hid (Below B w (W3.alloc (.cells #[.int .u8 a, .int .u8 b] 82))) := HB3.out.trans ((Below.alloc1 _ _).mono HM3.out.size)
      have HK4 : Hid (KeepG w (W3.alloc (.cells #[.int .u8 a, .int .u8 b] 82))) := HK3.out.trans (KeepG.of_below (Below.alloc1 _ _))
      go_upto_region 8 with (first | (at_builtin; refine wpList_append_full eJn rfl (.tmp 39) (.tmp 43) rfl x.js.length rfl HO4.out rfl 1 rfl HL4.out rfl (by simp) (by simp; omega) HA1.out ?_; intro A5 c5 W5 ho5 hB5; obtain ⟨d0, -, -, e0, -⟩ := Blk.c3 ((HM4.out.below hB5).at_.blk k x HF1.out)))
      have hM5 := HM4.out.below hB5
      have hbk := hM5.at_.blk k x HF1.out
      have hz4 : W3.heap.size ≤ (W3.alloc (.cells #[.int .u8 a, .int .u8 b] 82)).heap.size := by simp
      have ho5B : EOwn eJn W5 B A5 c5 (x.js ++ [(a, b)]) := ho5.mono (by have := HM3.out.size; omega)
      have hlen5 : (x.js ++ [(a, b)]).length = x.js.length + 1 := by simp
      have hbk' : Blk (W5.setCell ⟨x.g, 0, none⟩ (.slice A5 (x.js.length + 1) c5)) x.g 74 (Gb.cells ⟨x.g, A5, c5, x.js ++ [(a, b)], x.bv, x.ov⟩) := by
        have := hbk.set0 (u := .slice A5 (x.js.length + 1) c5)
        unfold Gb.cells
        rw [hlen5]
        exact this
      have hg6 : W5.grownBy (W5.setCell ⟨x.g, 0, none⟩ (.slice A5 (x.js.length + 1) c5)) (some x.g) := grown_store W5 x.g 0 _
      have hturn := hM5.at_.turn (y := ⟨x.g, A5, c5, x.js ++ [(a, b)], x.bv, x.ov⟩) HF1.out rfl hg6 hbk' (ho5B.keptG hbk (by decide) hg6)
      have HR : Hid (∃ F, MemoIs (W5.setCell ⟨x.g, 0, none⟩ (.slice A5 (x.js.length + 1) c5)) B gm F (Pn.madd m a b).1) := by
        have hk2 : k < List.length (Pn.mset m k []) := by rw [HM1.out.ok.len]; exact hab
        have hget : Pn.mget (Pn.mset m k []) k = some x.js := by rw [← HM1.out.js k, HF1.out]; rfl
        have hcnt := Pn.mcnt_old hk2 hget (x.js ++ [(a, b)])
        have hset : Pn.mset (Pn.mset m k []) k (x.js ++ [(a, b)]) = Pn.mset m k (x.js ++ [(a, b)]) := by first | rfl | exact HSET.out _
        refine ⟨fun i => if i = k then some ⟨x.g, A5, c5, x.js ++ [(a, b)], x.bv, x.ov⟩ else F1 i, ?_, HA.out, fun i => ?_, fun i z hz => ?_, ?_⟩
        · rw [HADD.out]
          show MemoAt _ B gm (Pn.mcnt (Pn.mset m k (x.js ++ [(a, b)]))) _
          rw [← hset, hcnt]
          exact hturn
        · rw [HADD.out]
          show _ = Pn.mget (Pn.mset m k (x.js ++ [(a, b)])) i
          rw [← hset, Pn.mget_set hk2]
          (try dsimp only)
          by_cases hi : i = k
          · rw [if_pos hi, if_pos hi]; rfl
          · rw [if_neg hi, if_neg hi]; exact HM1.out.js i
        · (try dsimp only at hz)
          split at hz
          · cases hz; exact HM1.out.nil k x HF1.out
          · exact HM1.out.nil i z hz
        · have := hM5.size; simpa using this
      have HB6 : Hid (Below B w (W5.setCell ⟨x.g, 0, none⟩ (.slice A5 (x.js.length + 1) c5))) := below_of_grown (HB4.out.trans (hB5.mono (by have := HM4.out.size; omega))) hg6 (HM1.out.at_.lo k x HF1.out) hM5.size
      have HK6 : Hid (KeepG w (W5.setCell ⟨x.g, 0, none⟩ (.slice A5 (x.js.length + 1) c5))) := (HK4.out.trans (KeepG.of_below hB5)).trans (KeepG.set hbk _)
      have HRT : Hid ((Pn.madd m a b).2 = true) := by show _ = _; rw [HADD.out]
      clear hM5 hbk hz4 ho5B hlen5 hbk' hg6 hturn ho5 hB5 d0 e0 c0 f0
      go_wp2_with fail
      go_ret
      exact ⟨by rw [HRT.out]; rfl, HR.out, HB6.out, HK6.out⟩
  | some x =>
    have hgk : Pn.mget m k = some x.js := by rw [← hjk, hF]; rfl
    have HGK := Lib.hid hgk
    have hmap := HM.out.at_.map
    have hM1 := HM.out
    have hF1 := hF
    have HF1 := Lib.hid hF1
    have HM1 := HM
    have hjs : x.js = Pn.mjs m k := by unfold Pn.mjs; rw [HGK.out]; rfl
    have HJ := Lib.hid hjs
    have HNE : Hid (x.js ≠ [] → m = m) := fun _ => rfl
    have HSET : Hid (∀ l, Pn.mset m k l = Pn.mset m k l) := fun _ => rfl
    have HB : Hid (Below B w w) := Below.refl _ _
    have HK : Hid (KeepG w w) := KeepG.refl _
    clear hjk hgk hM1 hF1 hjs
    go_upto_region 5 with (at_lookup; refine wpList_memo_lookup rfl (.tmp 10) (.tmp 13) rfl rfl hmap k rfl (by omega) (HZ.out _) ?_; simp only [hF, Option.map_some, ptrV, Option.isSome_some])
    clear hF hmap
    have hM1 := HM1.out
    have hF1 := HF1.out
    have hjs := HJ.out
    have hown := hM1.at_.row k x hF1
    have hfew : x.js.length ≤ 256 := by rw [hjs]; exact HM.out.ok.few k
    obtain ⟨c0, -, -, f0, -⟩ := Blk.c3 (hM1.at_.blk k x hF1)
    have hcap := hown.cap
    have hcm := hown.capMax
    have HO := Lib.hid hown
    have HA0 : Hid (x.ja = none → x.jc = 0) := fun h => by
      rcases hown.form with ⟨-, h, -⟩ | ⟨g, h1, -⟩
      · exact h
      · rw [h] at h1; cases h1
    have HA1 : Hid (x.ja = none → x.js = []) := fun h => by
      rcases hown.form with ⟨-, -, h⟩ | ⟨g, h1, -⟩
      · exact h
      · rw [h] at h1; cases h1
    clear hM1 hF1 hjs hown
    obtain ⟨C, hC⟩ : ∃ C, x.js.contains (a, b) = C := ⟨_, rfl⟩
    have HC := Lib.hid hC
    have HCC := Lib.hid (jcontains_any w x.ja x.jc x.js HO.out.row (by omega) (a, b))
    rw [hC] at HCC
    clear hC
    go_wp2_with fail
    refine (show Calls _ _ #[_, .agg #[.int .u8 a, .int .u8 b]] _ _ from HCC.out).mono ?_
    rintro e W3 ⟨rfl, hB3⟩
    cases C with
    | true =>
      have HB3 : Hid (Below B w W3) := HB.out.trans (hB3.mono HM1.out.size)
      have HK3 : Hid (KeepG w W3) := HK.out.trans (KeepG.of_below hB3)
      have HR : Hid (MemoIs W3 B gm F m ∧ Pn.madd m a b = (m, false)) := by
        have e : m = m := by first | rfl | exact HNE.out (fun h => by rw [h] at HC; cases HC.out)
        have h1 := HM1.out.below hB3
        rw [e] at h1
        refine ⟨h1, ?_⟩
        unfold Pn.madd
        rw [HKK.out, ← HJ.out, if_pos HC.out]
      clear hB3
      go_wp2_with fail
      go_ret
      exact ⟨by rw [HR.out.2]; rfl, ⟨_, by rw [HR.out.2]; exact HR.out.1⟩, HB3.out, HK3.out⟩
    | false =>
      have hM3 := HM1.out.below hB3
      have HM3 := Lib.hid hM3
      have HB3 : Hid (Below B w W3) := HB.out.trans (hB3.mono HM1.out.size)
      have HK3 : Hid (KeepG w W3) := HK.out.trans (KeepG.of_below hB3)
      obtain ⟨c0, -, -, f0, -⟩ := Blk.c3 (hM3.at_.blk k x HF1.out)
      have hown3 := (hM3.at_.row k x HF1.out).row
      have HO3 := Lib.hid hown3
      have HADD : Hid (Pn.madd m a b = (Pn.mset m k (x.js ++ [(a, b)]), true)) := by
        show _ = _
        unfold Pn.madd
        rw [HKK.out, ← HJ.out, if_neg (by rw [HC.out]; simp)]
      clear hB3 hM3 hown3
      go_wp2_with fail
      refine (jclip_any W3 x.ja x.jc x.js.length hcap hcm HA0.out).mono ?_
      rintro e w4 ⟨rfl, rfl⟩
      have hbs : ∀ w, (Instr.buildSlice 71 1 #[(0, .agg #[.int .u8 a, .int .u8 b])]).run Tryz.prog w = .ok (.slice (some ⟨w.heap.size, 0, none⟩) 1 1) (w.alloc (.cells #[.int .u8 a, .int .u8 b] 82)) := fun w => run_buildSlice_one eJn (a, b) (jnV (a, b)) rfl (by decide) w
      have HL4 : Hid (ERow eJn (W3.alloc (.cells #[.int .u8 a, .int .u8 b] 82)) (some ⟨W3.heap.size, 0, none⟩) [(a, b)]) := ERow.lit eJn W3 (a, b) _ rfl _ rfl
      have HO4 : Hid (ERow eJn (W3.alloc (.cells #[.int .u8 a, .int .u8 b] 82)) x.ja x.js) := HO3.out.below (Below.alloc1 _ _)
      have HM4 : Hid (MemoIs (W3.alloc (.cells #[.int .u8 a, .int .u8 b] 82)) B gm F (m)) := HM3.out.below (Below.alloc1 _ _)
      have HB4 : Hid (Below B w (W3.alloc (.cells #[.int .u8 a, .int .u8 b] 82))) := HB3.out.trans ((Below.alloc1 _ _).mono HM3.out.size)
      have HK4 : Hid (KeepG w (W3.alloc (.cells #[.int .u8 a, .int .u8 b] 82))) := HK3.out.trans (KeepG.of_below (Below.alloc1 _ _))
      go_upto_region 8 with (first | (at_builtin; refine wpList_append_full eJn rfl (.tmp 39) (.tmp 43) rfl x.js.length rfl HO4.out rfl 1 rfl HL4.out rfl (by simp) (by simp; omega) HA1.out ?_; intro A5 c5 W5 ho5 hB5; obtain ⟨d0, -, -, e0, -⟩ := Blk.c3 ((HM4.out.below hB5).at_.blk k x HF1.out)))
      have hM5 := HM4.out.below hB5
      have hbk := hM5.at_.blk k x HF1.out
      have hz4 : W3.heap.size ≤ (W3.alloc (.cells #[.int .u8 a, .int .u8 b] 82)).heap.size := by simp
      have ho5B : EOwn eJn W5 B A5 c5 (x.js ++ [(a, b)]) := ho5.mono (by have := HM3.out.size; omega)
      have hlen5 : (x.js ++ [(a, b)]).length = x.js.length + 1 := by simp
      have hbk' : Blk (W5.setCell ⟨x.g, 0, none⟩ (.slice A5 (x.js.length + 1) c5)) x.g 74 (Gb.cells ⟨x.g, A5, c5, x.js ++ [(a, b)], x.bv, x.ov⟩) := by
        have := hbk.set0 (u := .slice A5 (x.js.length + 1) c5)
        unfold Gb.cells
        rw [hlen5]
        exact this
      have hg6 : W5.grownBy (W5.setCell ⟨x.g, 0, none⟩ (.slice A5 (x.js.length + 1) c5)) (some x.g) := grown_store W5 x.g 0 _
      have hturn := hM5.at_.turn (y := ⟨x.g, A5, c5, x.js ++ [(a, b)], x.bv, x.ov⟩) HF1.out rfl hg6 hbk' (ho5B.keptG hbk (by decide) hg6)
      have HR : Hid (∃ F, MemoIs (W5.setCell ⟨x.g, 0, none⟩ (.slice A5 (x.js.length + 1) c5)) B gm F (Pn.madd m a b).1) := by
        have hk2 : k < List.length (m) := by rw [HM1.out.ok.len]; exact hab
        have hget : Pn.mget (m) k = some x.js := by rw [← HM1.out.js k, HF1.out]; rfl
        have hcnt := Pn.mcnt_old hk2 hget (x.js ++ [(a, b)])
        have hset : Pn.mset (m) k (x.js ++ [(a, b)]) = Pn.mset m k (x.js ++ [(a, b)]) := by first | rfl | exact HSET.out _
        refine ⟨fun i => if i = k then some ⟨x.g, A5, c5, x.js ++ [(a, b)], x.bv, x.ov⟩ else F i, ?_, HA.out, fun i => ?_, fun i z hz => ?_, ?_⟩
        · rw [HADD.out]
          show MemoAt _ B gm (Pn.mcnt (Pn.mset m k (x.js ++ [(a, b)]))) _
          rw [← hset, hcnt]
          exact hturn
        · rw [HADD.out]
          show _ = Pn.mget (Pn.mset m k (x.js ++ [(a, b)])) i
          rw [← hset, Pn.mget_set hk2]
          (try dsimp only)
          by_cases hi : i = k
          · rw [if_pos hi, if_pos hi]; rfl
          · rw [if_neg hi, if_neg hi]; exact HM1.out.js i
        · (try dsimp only at hz)
          split at hz
          · cases hz; exact HM1.out.nil k x HF1.out
          · exact HM1.out.nil i z hz
        · have := hM5.size; simpa using this
      have HB6 : Hid (Below B w (W5.setCell ⟨x.g, 0, none⟩ (.slice A5 (x.js.length + 1) c5))) := below_of_grown (HB4.out.trans (hB5.mono (by have := HM4.out.size; omega))) hg6 (HM1.out.at_.lo k x HF1.out) hM5.size
      have HK6 : Hid (KeepG w (W5.setCell ⟨x.g, 0, none⟩ (.slice A5 (x.js.length + 1) c5))) := (HK4.out.trans (KeepG.of_below hB5)).trans (KeepG.set hbk _)
      have HRT : Hid ((Pn.madd m a b).2 = true) := by show _ = _; rw [HADD.out]
      clear hM5 hbk hz4 ho5B hlen5 hbk' hg6 hturn ho5 hB5 d0 e0 c0 f0
      go_wp2_with fail
      go_ret
      exact ⟨by rw [HRT.out]; rfl, HR.out, HB6.out, HK6.out⟩
end Go.Proofs.YtjdffhonljhpcaaGreat
end

