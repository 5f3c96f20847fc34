/-
  Texts of a proof, one behind the other (each with its own head).
-/
import Derived.Test.YtpahkaffknnjhaaGreatDoorPartFinkncpao
import Derived.Maps.Own
import Derived.Maps.OwnSet
import Derived.Maps.Views
import Derived.ChangeKeysEq
import Derived.Laws.IdiomCopy
section
/-
  The contract of plan's against.
-/
namespace Go.Proofs.YtpahkaffknnjhaaGreatDoor
set_option linter.unusedSimpArgs false
set_option linter.unusedVariables false
open Go.RowKit

namespace Pn
/-- Does a part of a comparison, from the i-th on, hold the column so? -/
def agF (x : PX) (y z : Nd) (op : List UInt8) (at_ : Int) (given : Nat) (ops : List (List UInt8)) (i : Nat) : Bool :=
  if i = 0 then agHit x y z op at_ given ops || agHit x z y (Ev.turnS op) at_ given ops else if i = 1 then agHit x z y (Ev.turnS op) at_ given ops else false
theorem agst_no {x : PX} {n : Nd} {at_ : Int} {given : Nat} {ops : List (List UInt8)} (h : n.k ≠ 7 ∨ n.args.length ≠ 2) : agst x n at_ given ops = false := by
  unfold agst
  by_cases hk : n.k = 7
  · have hl : n.args.length ≠ 2 := h.resolve_left (fun e => e hk)
    match n.args, hl with
    | [], _ => simp
    | [_], _ => simp
    | [_, _], h => exact absurd rfl h
    | _ :: _ :: _ :: _, _ => simp
  · rw [beq_eq_false_iff_ne.2 hk, Bool.false_and]
theorem agst_two {x : PX} {n y z : Nd} {at_ : Int} {given : Nat} {ops : List (List UInt8)} (hk : n.k = 7) (h : n.args = [y, z]) : agst x n at_ given ops = agF x y z n.op at_ given ops 0 := by
  unfold agst
  rw [hk, h]
  rfl
end Pn
set_option maxRecDepth 20000 in
set_option maxHeartbeats 8000000 in
theorem plagst_any (w : World) (p : Qp) (hp : QpIn w p) (hB4 : p.x.B.length ≤ 4) (n : Nd) (hn : NodeIn w n) (at_ : Int) (given : Nat) (hg16 : given < 16) (A : Option Addr) (c : Nat) (ops : List (List UInt8)) (hO : ERow eStr w A ops) (hl : ops.length ≤ 1000) :
    Calls Tryz.prog 169 #[p.v, n.v, .int .i64 at_, .int .u8 given, .slice A ops.length c] w (RetBo w (Pn.agst p.x n at_ given ops)) := by
  have HP := Lib.hid hp
  have HO := Lib.hid hO
  have hin := hn
  cases hin with
  | mk hr hin hlit hls hk hat hcc hm =>
  have hcm : n.args.length ≤ 9223372036854775807 := by unfold maxLen at hm; omega
  have HR := Lib.hid hr
  have HI := Lib.hid hin
  have HAK := Lib.hid (plasks_any w p hp hB4)
  obtain ⟨D, hD⟩ : ∃ D, Pn.agst p.x n at_ given ops = D := ⟨_, rfl⟩
  have HD := Lib.hid hD
  rw [hD]
  clear hp hO hr hin hlit hls hk hat hcc hm hD hn
  go_enter Tryz.func169, Tryz.ntmps169
  go_upto_region 1 with (first | (refine wpList_box_qp rfl (.tmp 0) rfl p rfl ?_; intro W1 hb1 hz1 hB1) | (refine wpList_box_nd rfl (.tmp 1) rfl n rfl ?_; intro W2 hb2 hz2 hB2))
  have hb12 := hb1.below hB2
  have HB2 := Lib.hid (hB1.then hB2)
  obtain ⟨g5, hg5⟩ : ∃ g, w.heap.size = g := ⟨_, rfl⟩
  have HQ : Hid (Blk W2 g5 26 p.cells) := by show Blk _ _ _ _; rw [← hg5]; exact hb12
  rw [hg5]
  clear hb1 hB1 hB2 hz2 hz1 hb12 hg5
  generalize W1.heap.size = g6 at hb2 ⊢
  have HNB := Lib.hid hb2
  obtain ⟨c0, -, -, -, -, -, -, -, -, c9, -⟩ := Blk.c10 hb2
  clear hb2
  by_cases hk : n.k = 7
  · have hkb : (n.k != 7) = false := by simp [hk]
    by_cases h2 : n.args.length = 2
    · have h2b : ((n.args.length : Int) != 2) = false := by simp [h2]
      obtain ⟨a, b, hab⟩ : ∃ a b, n.args = [a, b] := by
        match n.args, h2 with
        | [a, b], _ => exact ⟨a, b, rfl⟩
      have HE0 : Hid (Pn.agF p.x a b n.op at_ given ops 0 = D) := by show _ = _; rw [← HD.out, Pn.agst_two hk hab]
      have HAB := Lib.hid hab
      obtain ⟨op, hop⟩ : ∃ op, n.op = op := ⟨_, rfl⟩
      have HOP := Lib.hid hop
      rw [hop] at HE0
      clear hk h2 hab hop HD
      go_upto_region 4 with fail
      clear c0 c9 hkb h2b
      go_loopw [28] (fun iv wr => ∃ i : Nat, i ≤ 2 ∧ iv = .int .i64 (i : Int) ∧ Hid (Pn.agF p.x a b op at_ given ops i = D ∧ Below W2.heap.size W2 wr)) (fun iv _ => 2 - (intOf iv).toNat)
      case atStart => exact ⟨0, by omega, by go_num, HE0.out, Below.refl _ _⟩
      case round =>
        obtain ⟨i, hi, rfl, HJ⟩ := hrel
        have HE := Lib.hid HJ.out.1
        have HBW := Lib.hid HJ.out.2
        clear HJ
        have HLEN : Hid (n.args.length = 2) := by show _ = _; rw [HAB.out]; rfl
        have hi3 : i = 0 ∨ i = 1 ∨ i = 2 := by omega
        rcases hi3 with rfl | rfl | rfl
        · have hj : 0 < n.args.length := by have := HLEN.out; omega
          have hjz : 1 - 0 < n.args.length := by have := HLEN.out; omega
          have hji : (0 : Int) < (n.args.length : Int) := by omega
          have hjzi : (1 - 0 : Int) < (n.args.length : Int) := by omega
          obtain ⟨bb, oo, haa, -, -⟩ := HR.out.at_ hj
          have HIW : Hid (∀ W, Below W2.heap.size W2 W → ERow eNd W (some ⟨bb, oo, none⟩) n.args) := fun W hW => by rw [← haa]; exact HR.out.below (HB2.out.then hW)
          have HGX : Hid (n.args[0] = a) := by show _ = _; simp [HAB.out]
          have HGZ : Hid (n.args[1 - 0] = b) := by show _ = _; simp [HAB.out]
          have HZI := Lib.hid (HI.out b (by rw [HAB.out]; simp))
          have HHB : Hid (∀ W, Below W2.heap.size W2 W → W.cell? ⟨g6, 1, none⟩ = some (txt op) ∧ W.cell? ⟨g6, 9, none⟩ = some (.slice (some ⟨bb, oo, none⟩) n.args.length n.c)) := fun W hW => by
            obtain ⟨-, q1, -, -, -, -, -, -, -, q9, -⟩ := Blk.c10 (HNB.out.below hW)
            rw [HOP.out] at q1
            rw [haa] at q9
            exact ⟨q1, q9⟩
          rw [haa]
          clear haa
          go_upto_region 6 with (first | (refine wpList_load_nd_is rfl (.tmp 31) rfl (HIW.out _ HBW.out) hj a HGX.out rfl ?_) | (refine wpList_alloc_nd rfl rfl ?_; intro W6 hb6 hz6 hB6) | (refine wpList_store_nd rfl rfl (.tmp 12) (.tmp 32) rfl wr.heap.size rfl a rfl hb6 ?_; intro W7 hb7 hg7))
          have HB7 := Lib.hid (below_of_grown (HBW.out.then hB6) hg7 HBW.out.size (Nat.le_trans HBW.out.size hB6.size))
          clear hb6 hz6 hB6 hg7
          generalize wr.heap.size = g12 at hb7 ⊢
          obtain ⟨q1, -⟩ := HHB.out W7 HB7.out
          have HSTEP : Hid ((Pn.agHit p.x a b op at_ given ops || Pn.agF p.x a b op at_ given ops 1) = D) := by show _ = _; rw [← HE.out]; rfl
          go_upto_region 9 with fail
          clear q1
          have HBD : Hid (Below W2.heap.size W2 W7.drew) := HB7.out.drewR
          obtain ⟨-, q9⟩ := HHB.out W7.drew HBD.out
          have hqd := HQ.out.below HBD.out
          have HIR := Lib.hid (HIW.out W7.drew HBD.out)
          refine wp_region_plan (.take 0 (.take 1 (.take 2 (.take 3 (.take 4 (.take 5 (.take 6 (.run 7 [] (.take 8 (.take 9 (.take 10 (.take 11 (.take 12 .fin))))))))))))) (by kernel_rfl) (by kernel_rfl) (by kernel_rfl) (by kernel_rfl) ?_
          repeat' (first | (refine hZ _ _ ?_; clear hZ) | (refine hZ _ ?_; clear hZ) | (refine hZ ?_; clear hZ) | rw [again_nil] | rw [walk_fin] | ((first | rw [walk_take] | rw [walk_run] | rw [again_cons]); intro Z hZ; simp only [sel, List.getElem?_toArray, List.getElem?_cons_zero, List.getElem?_cons_succ]; go_wp2_with (first | (refine wpList_load_qp0 rfl (.tmp 5) rfl g5 rfl hqd ?_) | (refine wpList_load_nd_is rfl (.tmp 45) rfl HIR.out hjz b HGZ.out rfl ?_))))
          refine (HAK.out b HZI.out W7.drew (HB2.out.then HBD.out)).mono ?_
          rintro e W9 ⟨rfl, hB9⟩
          have HB9 := Lib.hid (HBD.out.then hB9)
          have hx9 := hb7.drew.below hB9
          obtain ⟨am, ham⟩ : ∃ am, (Pn.asks p.x b).1 = am := ⟨_, rfl⟩
          obtain ⟨ao, hao⟩ : ∃ ao, (Pn.asks p.x b).2 = ao := ⟨_, rfl⟩
          have HAM := Lib.hid ham
          have HAO := Lib.hid hao
          have hlt16 := Pn.asks_lt hB4 b
          rw [ham, hao]
          rw [ham] at hlt16
          clear ham hao
          have ham := hlt16
          clear hlt16 hB9 hqd q9 HIR hb7
          go_wp2_with fail
          repeat' (first | (refine hZ _ _ ?_; clear hZ) | (refine hZ _ ?_; clear hZ) | (refine hZ ?_; clear hZ) | rw [again_nil] | rw [walk_fin] | ((first | rw [walk_take] | rw [walk_run] | rw [again_cons]); intro Z hZ; simp only [sel, List.getElem?_toArray, List.getElem?_cons_zero, List.getElem?_cons_succ]; go_wp2_with (fail)))
          -- in world W9 behind asks: the checks. 1: the next index; a the part, b the other; op: its sign
          obtain ⟨x0, -, -, -, -, -, x6, -, -, -, -⟩ := Blk.c10 hx9
          by_cases h2 : a.k = 2
          · have h2b : (a.k == 2) = true := by simp [h2]
            by_cases hat : a.at_ = at_
            · have hab : (a.at_ == at_) = true := by simp [hat]
              cases hao : ao with
              | true =>
                have hao2 : (Pn.asks p.x b).2 = true := HAO.out.trans hao
                subst hao
                clear h2 hat
                have HN2 : Hid (Pn.agF p.x a b op at_ given ops 1 = D) := by
                  show _ = _
                  rw [← HSTEP.out, show Pn.agHit p.x a b (op) at_ given ops = false by unfold Pn.agHit; simp [hao2]]
                  rfl
                go_wp2_with fail
                go_roundw
                case rel => exact ⟨1, by omega, by go_num, HN2.out, HB9.out⟩
                case measure => simp [intOf]
              | false =>
                have hao2 : (Pn.asks p.x b).2 = false := HAO.out.trans hao
                subst hao
                cases hsub : Pn.sub am given with
                | false =>
                  have hs2 : Pn.sub (Pn.asks p.x b).1 given = false := by rw [HAM.out]; exact hsub
                  have ha8 : (bits BinOp.andNot IntKind.u8 (am : Int) (given : Int) == 0) = false := by rw [← hsub]; exact andNot8 am ham given hg16
                  clear h2 hat hsub
                  have HN2 : Hid (Pn.agF p.x a b op at_ given ops 1 = D) := by
                    show _ = _
                    rw [← HSTEP.out, show Pn.agHit p.x a b (op) at_ given ops = false by unfold Pn.agHit; simp [hs2]]
                    rfl
                  go_wp2_with fail
                  go_roundw
                  case rel => exact ⟨1, by omega, by go_num, HN2.out, HB9.out⟩
                  case measure => simp [intOf]
                | true =>
                  have hs2 : Pn.sub (Pn.asks p.x b).1 given = true := by rw [HAM.out]; exact hsub
                  have ha8 : (bits BinOp.andNot IntKind.u8 (am : Int) (given : Int) == 0) = true := by rw [← hsub]; exact andNot8 am ham given hg16
                  have HSC := Lib.hid (scontains_any W9 A c ops (HO.out.below (HB2.out.then HB9.out)) (by omega) (op))
                  have HHIT : Hid (Pn.agHit p.x a b (op) at_ given ops = ops.contains (op)) := by show _ = _; unfold Pn.agHit; simp [h2, hat, hao2, hs2]
                  clear h2 hat hsub
                  go_wp2_with fail
                  refine HSC.out.mono ?_
                  rintro e w10 ⟨rfl, rfl⟩
                  obtain ⟨C, hC⟩ : ∃ C, ops.contains (op) = C := ⟨_, rfl⟩
                  have HC := Lib.hid hC
                  rw [hC]
                  clear hC HSC
                  cases C with
                  | true =>
                    have HF : Hid (D = true) := by show _ = _; rw [← HSTEP.out, HHIT.out, HC.out]; rfl
                    go_wp2_with fail
                    go_ret
                    exact ⟨by rw [HF.out]; rfl, HB2.out.then HB9.out⟩
                  | false =>
                    have HN2 : Hid (Pn.agF p.x a b op at_ given ops 1 = D) := by show _ = _; rw [← HSTEP.out, HHIT.out, HC.out]; rfl
                    go_wp2_with fail
                    go_roundw
                    case rel => exact ⟨1, by omega, by go_num, HN2.out, HB9.out⟩
                    case measure => simp [intOf]
            · have hab : (a.at_ == at_) = false := by simp [hat]
              have HN2 : Hid (Pn.agF p.x a b op at_ given ops 1 = D) := by
                show _ = _
                rw [← HSTEP.out, show Pn.agHit p.x a b (op) at_ given ops = false by unfold Pn.agHit; simp [hat]]
                rfl
              go_wp2_with fail
              go_roundw
              case rel => exact ⟨1, by omega, by go_num, HN2.out, HB9.out⟩
              case measure => simp [intOf]
          · have h2b : (a.k == 2) = false := by simp [h2]
            have HN2 : Hid (Pn.agF p.x a b op at_ given ops 1 = D) := by
              show _ = _
              rw [← HSTEP.out, show Pn.agHit p.x a b (op) at_ given ops = false by unfold Pn.agHit; simp [h2]]
              rfl
            go_wp2_with fail
            go_roundw
            case rel => exact ⟨1, by omega, by go_num, HN2.out, HB9.out⟩
            case measure => simp [intOf]
        · have hj : 1 < n.args.length := by have := HLEN.out; omega
          have hjz : 1 - 1 < n.args.length := by have := HLEN.out; omega
          have hji : (1 : Int) < (n.args.length : Int) := by omega
          have hjzi : (1 - 1 : Int) < (n.args.length : Int) := by omega
          obtain ⟨bb, oo, haa, -, -⟩ := HR.out.at_ hj
          have HIW : Hid (∀ W, Below W2.heap.size W2 W → ERow eNd W (some ⟨bb, oo, none⟩) n.args) := fun W hW => by rw [← haa]; exact HR.out.below (HB2.out.then hW)
          have HGX : Hid (n.args[1] = b) := by show _ = _; simp [HAB.out]
          have HGZ : Hid (n.args[1 - 1] = a) := by show _ = _; simp [HAB.out]
          have HZI := Lib.hid (HI.out a (by rw [HAB.out]; simp))
          have HHB : Hid (∀ W, Below W2.heap.size W2 W → W.cell? ⟨g6, 1, none⟩ = some (txt op) ∧ W.cell? ⟨g6, 9, none⟩ = some (.slice (some ⟨bb, oo, none⟩) n.args.length n.c)) := fun W hW => by
            obtain ⟨-, q1, -, -, -, -, -, -, -, q9, -⟩ := Blk.c10 (HNB.out.below hW)
            rw [HOP.out] at q1
            rw [haa] at q9
            exact ⟨q1, q9⟩
          rw [haa]
          clear haa
          go_upto_region 6 with (first | (refine wpList_load_nd_is rfl (.tmp 31) rfl (HIW.out _ HBW.out) hj b HGX.out rfl ?_) | (refine wpList_alloc_nd rfl rfl ?_; intro W6 hb6 hz6 hB6) | (refine wpList_store_nd rfl rfl (.tmp 12) (.tmp 32) rfl wr.heap.size rfl b rfl hb6 ?_; intro W7 hb7 hg7))
          have HB7 := Lib.hid (below_of_grown (HBW.out.then hB6) hg7 HBW.out.size (Nat.le_trans HBW.out.size hB6.size))
          clear hb6 hz6 hB6 hg7
          generalize wr.heap.size = g12 at hb7 ⊢
          obtain ⟨q1, -⟩ := HHB.out W7 HB7.out
          have HSTEP : Hid ((Pn.agHit p.x b a (Ev.turnS op) at_ given ops || Pn.agF p.x a b op at_ given ops 2) = D) := by show _ = _; rw [← HE.out]; unfold Pn.agF; simp
          go_wp2_with fail
          refine (turn_any W7 op).mono ?_
          rintro e w8 ⟨rfl, hw8⟩
          rw [hw8]
          go_upto_region 9 with fail
          clear q1
          have HBD : Hid (Below W2.heap.size W2 W7.drew) := HB7.out.drewR
          obtain ⟨-, q9⟩ := HHB.out W7.drew HBD.out
          have hqd := HQ.out.below HBD.out
          have HIR := Lib.hid (HIW.out W7.drew HBD.out)
          refine wp_region_plan (.take 0 (.take 1 (.take 2 (.take 3 (.take 4 (.take 5 (.take 6 (.run 7 [] (.take 8 (.take 9 (.take 10 (.take 11 (.take 12 .fin))))))))))))) (by kernel_rfl) (by kernel_rfl) (by kernel_rfl) (by kernel_rfl) ?_
          repeat' (first | (refine hZ _ _ ?_; clear hZ) | (refine hZ _ ?_; clear hZ) | (refine hZ ?_; clear hZ) | rw [again_nil] | rw [walk_fin] | ((first | rw [walk_take] | rw [walk_run] | rw [again_cons]); intro Z hZ; simp only [sel, List.getElem?_toArray, List.getElem?_cons_zero, List.getElem?_cons_succ]; go_wp2_with (first | (refine wpList_load_qp0 rfl (.tmp 5) rfl g5 rfl hqd ?_) | (refine wpList_load_nd_is rfl (.tmp 45) rfl HIR.out hjz a HGZ.out rfl ?_))))
          refine (HAK.out a HZI.out W7.drew (HB2.out.then HBD.out)).mono ?_
          rintro e W9 ⟨rfl, hB9⟩
          have HB9 := Lib.hid (HBD.out.then hB9)
          have hx9 := hb7.drew.below hB9
          obtain ⟨am, ham⟩ : ∃ am, (Pn.asks p.x a).1 = am := ⟨_, rfl⟩
          obtain ⟨ao, hao⟩ : ∃ ao, (Pn.asks p.x a).2 = ao := ⟨_, rfl⟩
          have HAM := Lib.hid ham
          have HAO := Lib.hid hao
          have hlt16 := Pn.asks_lt hB4 a
          rw [ham, hao]
          rw [ham] at hlt16
          clear ham hao
          have ham := hlt16
          clear hlt16 hB9 hqd q9 HIR hb7
          go_wp2_with fail
          repeat' (first | (refine hZ _ _ ?_; clear hZ) | (refine hZ _ ?_; clear hZ) | (refine hZ ?_; clear hZ) | rw [again_nil] | rw [walk_fin] | ((first | rw [walk_take] | rw [walk_run] | rw [again_cons]); intro Z hZ; simp only [sel, List.getElem?_toArray, List.getElem?_cons_zero, List.getElem?_cons_succ]; go_wp2_with (fail)))
          -- in world W9 behind asks: the checks. 2: the next index; b the part, a the other; Ev.turnS op: its sign
          obtain ⟨x0, -, -, -, -, -, x6, -, -, -, -⟩ := Blk.c10 hx9
          by_cases h2 : b.k = 2
          · have h2b : (b.k == 2) = true := by simp [h2]
            by_cases hat : b.at_ = at_
            · have hab : (b.at_ == at_) = true := by simp [hat]
              cases hao : ao with
              | true =>
                have hao2 : (Pn.asks p.x a).2 = true := HAO.out.trans hao
                subst hao
                clear h2 hat
                have HN2 : Hid (Pn.agF p.x a b op at_ given ops 2 = D) := by
                  show _ = _
                  rw [← HSTEP.out, show Pn.agHit p.x b a (Ev.turnS op) at_ given ops = false by unfold Pn.agHit; simp [hao2]]
                  rfl
                go_wp2_with fail
                go_roundw
                case rel => exact ⟨2, by omega, by go_num, HN2.out, HB9.out⟩
                case measure => simp [intOf]
              | false =>
                have hao2 : (Pn.asks p.x a).2 = false := HAO.out.trans hao
                subst hao
                cases hsub : Pn.sub am given with
                | false =>
                  have hs2 : Pn.sub (Pn.asks p.x a).1 given = false := by rw [HAM.out]; exact hsub
                  have ha8 : (bits BinOp.andNot IntKind.u8 (am : Int) (given : Int) == 0) = false := by rw [← hsub]; exact andNot8 am ham given hg16
                  clear h2 hat hsub
                  have HN2 : Hid (Pn.agF p.x a b op at_ given ops 2 = D) := by
                    show _ = _
                    rw [← HSTEP.out, show Pn.agHit p.x b a (Ev.turnS op) at_ given ops = false by unfold Pn.agHit; simp [hs2]]
                    rfl
                  go_wp2_with fail
                  go_roundw
                  case rel => exact ⟨2, by omega, by go_num, HN2.out, HB9.out⟩
                  case measure => simp [intOf]
                | true =>
                  have hs2 : Pn.sub (Pn.asks p.x a).1 given = true := by rw [HAM.out]; exact hsub
                  have ha8 : (bits BinOp.andNot IntKind.u8 (am : Int) (given : Int) == 0) = true := by rw [← hsub]; exact andNot8 am ham given hg16
                  have HSC := Lib.hid (scontains_any W9 A c ops (HO.out.below (HB2.out.then HB9.out)) (by omega) (Ev.turnS op))
                  have HHIT : Hid (Pn.agHit p.x b a (Ev.turnS op) at_ given ops = ops.contains (Ev.turnS op)) := by show _ = _; unfold Pn.agHit; simp [h2, hat, hao2, hs2]
                  clear h2 hat hsub
                  go_wp2_with fail
                  refine HSC.out.mono ?_
                  rintro e w10 ⟨rfl, rfl⟩
                  obtain ⟨C, hC⟩ : ∃ C, ops.contains (Ev.turnS op) = C := ⟨_, rfl⟩
                  have HC := Lib.hid hC
                  rw [hC]
                  clear hC HSC
                  cases C with
                  | true =>
                    have HF : Hid (D = true) := by show _ = _; rw [← HSTEP.out, HHIT.out, HC.out]; rfl
                    go_wp2_with fail
                    go_ret
                    exact ⟨by rw [HF.out]; rfl, HB2.out.then HB9.out⟩
                  | false =>
                    have HN2 : Hid (Pn.agF p.x a b op at_ given ops 2 = D) := by show _ = _; rw [← HSTEP.out, HHIT.out, HC.out]; rfl
                    go_wp2_with fail
                    go_roundw
                    case rel => exact ⟨2, by omega, by go_num, HN2.out, HB9.out⟩
                    case measure => simp [intOf]
            · have hab : (b.at_ == at_) = false := by simp [hat]
              have HN2 : Hid (Pn.agF p.x a b op at_ given ops 2 = D) := by
                show _ = _
                rw [← HSTEP.out, show Pn.agHit p.x b a (Ev.turnS op) at_ given ops = false by unfold Pn.agHit; simp [hat]]
                rfl
              go_wp2_with fail
              go_roundw
              case rel => exact ⟨2, by omega, by go_num, HN2.out, HB9.out⟩
              case measure => simp [intOf]
          · have h2b : (b.k == 2) = false := by simp [h2]
            have HN2 : Hid (Pn.agF p.x a b op at_ given ops 2 = D) := by
              show _ = _
              rw [← HSTEP.out, show Pn.agHit p.x b a (Ev.turnS op) at_ given ops = false by unfold Pn.agHit; simp [h2]]
              rfl
            go_wp2_with fail
            go_roundw
            case rel => exact ⟨2, by omega, by go_num, HN2.out, HB9.out⟩
            case measure => simp [intOf]
        · have HF : Hid (D = false) := by show _ = _; rw [← HE.out]; rfl
          have hi2 : ¬ (2 : Int) < (n.args.length : Int) := by have := HLEN.out; omega
          go_wp2_with fail
          go_ret
          exact ⟨by rw [HF.out]; rfl, HB2.out.then HBW.out⟩
    · have h2b : ((n.args.length : Int) != 2) = true := by simp; omega
      have HF : Hid (D = false) := by show _ = _; rw [← HD.out, Pn.agst_no (.inr h2)]
      clear hk h2
      go_wp2_with fail
      go_ret
      exact ⟨by rw [HF.out]; rfl, HB2.out⟩
  · have hkb : (n.k != 7) = true := by simp [hk]
    have HF : Hid (D = false) := by show _ = _; rw [← HD.out, Pn.agst_no (.inl hk)]
    clear hk c9
    go_wp2_with fail
    go_ret
    exact ⟨by rw [HF.out]; rfl, HB2.out⟩
end Go.Proofs.YtpahkaffknnjhaaGreatDoor
end

section
/-
  The contracts of plan's equal, of what eq and bound look with, and of these.
-/
namespace Go.Proofs.YtpahkaffknnjhaaGreatDoor
set_option linter.unusedSimpArgs false
set_option linter.unusedVariables false
open Go.RowKit

set_option maxRecDepth 20000 in
theorem plequal_any (w : World) (p : Qp) (hp : QpIn w p) (hB4 : p.x.B.length ≤ 4) (n : Nd) (hn : NodeIn w n) (at_ : Int) (given : Nat) (hg16 : given < 16) :
    Calls Tryz.prog 167 #[p.v, n.v, .int .i64 at_, .int .u8 given] w (RetBo w (Pn.agst p.x n at_ given [[61]])) := by
  have HP := Lib.hid hp
  have HN := Lib.hid hn
  clear hp hn
  go_enter Tryz.func167, Tryz.ntmps167
  go_upto_region 1 with (first | (refine wpList_box_qp rfl (.tmp 0) rfl p rfl ?_; intro W1 hb1 hz1 hB1) | (refine wpList_box_nd rfl (.tmp 1) rfl n rfl ?_; intro W2 hb2 hz2 hB2))
  have hb12 := hb1.below hB2
  have HB2 := Lib.hid (hB1.then hB2)
  clear hb1 hB1 hB2 hz2 hz1
  go_wp2_with (first | (refine wpList_load_qp0 rfl (.tmp 4) rfl _ rfl hb12 ?_) | (refine wpList_load_nd rfl (.tmp 5) rfl _ rfl hb2 ?_))
  generalize hW3 : World.alloc W2 (.cells _ _) = W3
  obtain ⟨ba3, hz3, hB3⟩ := fresh1 hW3
  clear hW3
  have HB3 := Lib.hid (HB2.out.then hB3)
  have HAG := Lib.hid (plagst_any W3 p (HP.out.below HB3.out) hB4 n (nd_below15 HN.out HB3.out) at_ given hg16 (some ⟨W2.heap.size, 0, none⟩) 1 [[61]] (Blk.row eStr ba3 _ rfl (by simp [maxLen])) (by simp))
  clear hb12 hb2 ba3 hz3 hB3
  refine (show Calls _ _ _ _ _ from HAG.out).mono ?_
  rintro e W4 ⟨rfl, hB4⟩
  have HB4 := Lib.hid (HB3.out.then hB4)
  clear hB4
  go_wp2_with fail
  go_ret
  exact ⟨rfl, HB4.out⟩
end Go.Proofs.YtpahkaffknnjhaaGreatDoor
end

section
/-
  The contracts of a planner's eq and bound.
-/
namespace Go.Proofs.YtpahkaffknnjhaaGreatDoor
set_option linter.unusedSimpArgs false
set_option linter.unusedVariables false
open Go.RowKit

namespace Pn
end Pn
end Go.Proofs.YtpahkaffknnjhaaGreatDoor
end

section
/-
  The groups of tables in memory: a map of pointers to groups.
-/
namespace Go.Proofs.YtpahkaffknnjhaaGreatDoor
set_option linter.unusedSimpArgs false
set_option linter.unusedVariables false
open Go.RowKit Go.Maps

section
variable {w : World} {ops : Array Oper} {rest : List Oper} {o : Oper} {a : Act} {Q : Exit → Act → World → Prop} {gm N : Nat} {f : Nat → Option Nat}
end
end Go.Proofs.YtpahkaffknnjhaaGreatDoor
end

section
/-
  Plans in memory; the contract of less; whole numbers among others.
-/
namespace Go.Proofs.YtpahkaffknnjhaaGreatDoor
set_option linter.unusedSimpArgs false
set_option linter.unusedVariables false
open Go.RowKit

/-- A plan with the places of its parts. -/
inductive Pm where
  | mk (op fr ix : Int) (ea : Option Addr) (eq : List Int) (ec : Nat) (low high cost rows : Int) (ka : Option Addr) (kids : List Pm) (kc : Nat)
namespace Pm
def op : Pm → Int | .mk op _ _ _ _ _ _ _ _ _ _ _ _ => op
def fr : Pm → Int | .mk _ fr _ _ _ _ _ _ _ _ _ _ _ => fr
def ix : Pm → Int | .mk _ _ ix _ _ _ _ _ _ _ _ _ _ => ix
def ea : Pm → Option Addr | .mk _ _ _ ea _ _ _ _ _ _ _ _ _ => ea
def eq : Pm → List Int | .mk _ _ _ _ eq _ _ _ _ _ _ _ _ => eq
def ec : Pm → Nat | .mk _ _ _ _ _ ec _ _ _ _ _ _ _ => ec
def low : Pm → Int | .mk _ _ _ _ _ _ low _ _ _ _ _ _ => low
def high : Pm → Int | .mk _ _ _ _ _ _ _ high _ _ _ _ _ => high
def cost : Pm → Int | .mk _ _ _ _ _ _ _ _ cost _ _ _ _ => cost
def rows : Pm → Int | .mk _ _ _ _ _ _ _ _ _ rows _ _ _ => rows
def ka : Pm → Option Addr | .mk _ _ _ _ _ _ _ _ _ _ ka _ _ => ka
def kids : Pm → List Pm | .mk _ _ _ _ _ _ _ _ _ _ _ kids _ => kids
def kc : Pm → Nat | .mk _ _ _ _ _ _ _ _ _ _ _ _ kc => kc
def cells (p : Pm) : List Value := [.int .i64 p.op, .int .i64 p.fr, .int .i64 p.ix, .slice p.ea p.eq.length p.ec, .int .i64 p.low, .int .i64 p.high, .int .i64 p.cost, .int .i64 p.rows, .slice p.ka p.kids.length p.kc]
def v (p : Pm) : Value := .agg p.cells.toArray
def nil : Pm := .mk 0 0 0 none [] 0 0 0 0 0 none [] 0
instance : Inhabited Pm := ⟨nil⟩
mutual
/-- The plan without places. -/
def e : Pm → Pl
  | .mk op fr ix _ eq _ low high cost rows _ kids _ => .mk op fr ix eq low high cost rows (eL kids)
def eL : List Pm → List Pl
  | [] => []
  | p :: l => e p :: eL l
end
theorem eL_map (l : List Pm) : eL l = l.map e := by
  induction l with
  | nil => rfl
  | cons p l ih => show e p :: eL l = _; rw [ih]; rfl
theorem e_eq (p : Pm) : p.e = .mk p.op p.fr p.ix p.eq p.low p.high p.cost p.rows (p.kids.map e) := by
  cases p with
  | mk op fr ix ea eq ec low high cost rows ka kids kc => show Pl.mk op fr ix eq low high cost rows (eL kids) = _; rw [eL_map]; rfl
theorem e_op (p : Pm) : p.e.op = p.op := by cases p; rfl
end Pm
def ePm : Elem Pm where
  e := 71
  t := 69
  sz := 9
  bytes := 104
  zero := Pm.nil.v
  code := fun x => x.cells
  pos := by decide
  few := by decide
  len := fun _ => rfl
  one := by
    intro x u hu
    simp [Pm.cells] at hu
    rcases hu with rfl | rfl | rfl | rfl | rfl | rfl | rfl | rfl | rfl <;> rfl
  zsz := rfl
  info := by kernel_rfl
  under := Tryz.underlying69
theorem pm_info : (Tryz.prog.info? 71).map (·.size) = some 9 := by kernel_rfl
theorem pm_zero (W : World) : (zeroValue 71).run Tryz.prog W = .ok Pm.nil.v W := (zero_of_info (P := Tryz.prog) (t := 71) (v := Pm.nil.v) (n := 9) (by kernel_rfl)).1 W
section
variable {w : World} {ops : Array Oper} {rest : List Oper} {o : Oper} {a : Act} {Q : Exit → Act → World → Prop}
theorem wpList_alloc_pm (hgd : o.guard = none) (hop : o.op = .alloc 71)
    (h : ∀ W, Blk W w.heap.size 71 Pm.nil.cells → w.heap.size + 1 ≤ W.heap.size → Below w.heap.size w W → wpList Tryz.prog ops Q rest (a.put o.dst (.pointer (some ⟨w.heap.size, 0, none⟩))) W) : wpList Tryz.prog ops Q (o :: rest) a w :=
  wpList_alloc_z hgd 71 hop (pm_zero _) fun W hW => by
    obtain ⟨h1, h2, h3⟩ := fresh1 (a := Pm.nil.cells) hW
    exact h W h1 h2 h3
theorem wpList_store_pm (hgd : o.guard = none) (hod : o.dst = none) (x y : Operand) (hop : o.op = .store 71 x y) (g : Nat) (hx : a.eval x = .pointer (some ⟨g, 0, none⟩)) (b : Pm) (hy : a.eval y = b.v) {T0 : TypeId} {old : Pm} (hb : Blk w g T0 old.cells)
    (h : ∀ W, Blk W g T0 b.cells → w.grownBy W (some g) → wpList Tryz.prog ops Q rest a W) : wpList Tryz.prog ops Q (o :: rest) a w :=
  wpList_store_blk hgd hod 71 x y hop g hx b.cells hy hb rfl pm_info (ePm.one b) h
theorem wpList_load_pm (hgd : o.guard = none) (x : Operand) (hop : o.op = .load 71 x) (g : Nat) (hx : a.eval x = .pointer (some ⟨g, 0, none⟩)) {T0 : TypeId} {b : Pm} (hb : Blk w g T0 b.cells)
    (h : wpList Tryz.prog ops Q rest (a.put o.dst b.v) w) : wpList Tryz.prog ops Q (o :: rest) a w :=
  wpList_load_mid hgd 71 x hop g 0 hx b.cells _ (hb.range 0 b.cells fun j _ => by rw [Nat.zero_add]) Tryz.underlying71 rfl pm_info h
theorem wpList_load_pm_at (hgd : o.guard = none) (x : Operand) (hop : o.op = .load 71 x) {b off : Nat} {L : List Pm} (hr : ERow ePm w (some ⟨b, off, none⟩) L) {j : Nat} (hj : j < L.length) (p : Pm) (hp : L[j] = p) (hx : a.eval x = .pointer (some ⟨b, off + j * 9, none⟩))
    (h : wpList Tryz.prog ops Q rest (a.put o.dst p.v) w) : wpList Tryz.prog ops Q (o :: rest) a w := by
  subst hp
  obtain ⟨b', off', e, hb, hrg⟩ := hr.range hj
  cases e
  exact wpList_load_mid hgd 71 x hop b (off + j * 9) hx L[j].cells _ hrg Tryz.underlying71 rfl pm_info h
theorem wpList_box_pm (hgd : o.guard = none) (x : Operand) (hop : o.op = .box 71 x) (b : Pm) (hx : a.eval x = b.v)
    (h : ∀ W, Blk W w.heap.size 71 b.cells → w.heap.size + 1 ≤ W.heap.size → Below w.heap.size w W → wpList Tryz.prog ops Q rest (a.put o.dst (.pointer (some ⟨w.heap.size, 0, none⟩))) W) : wpList Tryz.prog ops Q (o :: rest) a w :=
  wpList_plain hgd fun _ hK => by
    unfold Oper.wp execOp
    have e : (Instr.box 71 b.v).run Tryz.prog w = .ok (.pointer (some ⟨w.heap.size, 0, none⟩)) (w.alloc (.cells b.cells.toArray 71)) := by
      simp [Instr.box, Sem.run_bind, newVar, newRow]
      rfl
    simp only [hop, hx, Sem.run_bind, e, Result.andThen_ok, Sem.run_pure]
    obtain ⟨h1, h2, h3⟩ := fresh1 (w := w) (a := b.cells) (t := 71) rfl
    exact hK _ _ (h _ h1 h2 h3)
end
theorem Blk.pm {w : World} {g : Nat} {t : TypeId} {p : Pm} (h : Blk w g t p.cells) :
    w.cell? ⟨g, 0, none⟩ = some (.int .i64 p.op) ∧ w.cell? ⟨g, 1, none⟩ = some (.int .i64 p.fr) ∧ w.cell? ⟨g, 2, none⟩ = some (.int .i64 p.ix) ∧ w.cell? ⟨g, 3, none⟩ = some (.slice p.ea p.eq.length p.ec) ∧
    w.cell? ⟨g, 4, none⟩ = some (.int .i64 p.low) ∧ w.cell? ⟨g, 5, none⟩ = some (.int .i64 p.high) ∧ w.cell? ⟨g, 6, none⟩ = some (.int .i64 p.cost) ∧ w.cell? ⟨g, 7, none⟩ = some (.int .i64 p.rows) ∧ w.cell? ⟨g, 8, none⟩ = some (.slice p.ka p.kids.length p.kc) :=
  ⟨h.cell 0, h.cell 1, h.cell 2, h.cell 3, h.cell 4, h.cell 5, h.cell 6, h.cell 7, h.cell 8⟩
end Go.Proofs.YtpahkaffknnjhaaGreatDoor
end

section
/-
  Stable sorting of a slice that is nil.
-/
namespace Go.Proofs.YtpahkaffknnjhaaGreatDoor
set_option linter.unusedSimpArgs false
set_option linter.unusedVariables false
open Go.RowKit
set_option maxRecDepth 20000 in
set_option maxHeartbeats 4000000 in
theorem stable0G_any (w : World) (q : Nat) :
    Calls Tryz.prog 75 #[.slice none 0 0, .func (.func 76) #[] #[.pointer (some ⟨q, 0, none⟩)]] w fun e w' => e = .returned (.tuple #[]) ∧ w = w' := by
  have HI : ∀ w, Hid (Calls Tryz.prog 150 #[.slice none 0 0, .int .i64 0, .int .i64 0, .func (.func 76) #[] #[.pointer (some ⟨q, 0, none⟩)]] w fun e w' => e = .returned (.tuple #[]) ∧ w = w') := by
    intro w
    show Calls _ _ _ _ _
    go_enter Tryz.func150, Tryz.ntmps150
    go_wp2_with fail
    go_loopw [8] (fun iv wr => iv = .int .i64 1 ∧ w = wr) (fun _ _ => 0)
    case atStart => exact ⟨by go_num, rfl⟩
    case round =>
      obtain ⟨rfl, rfl⟩ := hrel
      go_wp2_with fail
      go_end0
      exact ⟨rfl, rfl⟩
  have HS : ∀ w, Hid (Calls Tryz.prog 119 #[.slice none 0 0, .int .i64 0, .func (.func 76) #[] #[.pointer (some ⟨q, 0, none⟩)]] w fun e w' => e = .returned (.tuple #[]) ∧ w = w') := by
    intro w
    show Calls _ _ _ _ _
    go_enter Tryz.func119, Tryz.ntmps119
    go_wp2_with fail
    go_loopw [7, 8] (fun av bv wr => av = .int .i64 0 ∧ bv = .int .i64 20 ∧ w = wr) (fun _ _ _ => 0)
    case atStart => exact ⟨by go_num, by go_num, rfl⟩
    case round =>
      obtain ⟨rfl, rfl, rfl⟩ := hrel
      go_wp2_with fail
      refine (show Calls _ _ _ _ _ from (HI w).out).mono ?_
      rintro e W ⟨rfl, rfl⟩
      go_wp2_with fail
      go_loopw [6] (fun bv wr => bv = .int .i64 20 ∧ w = wr) (fun _ _ => 0)
      case atStart => exact ⟨by go_num, rfl⟩
      case round =>
        obtain ⟨rfl, rfl⟩ := hrel
        go_wp2_with fail
        go_end0
        exact ⟨rfl, rfl⟩
  go_enter Tryz.func75, Tryz.ntmps75
  go_wp2_with fail
  refine (show Calls _ _ _ _ _ from (HS w).out).mono ?_
  rintro e W ⟨rfl, rfl⟩
  go_wp2_with fail
  go_end0
  exact ⟨rfl, rfl⟩
set_option maxRecDepth 20000 in
set_option maxHeartbeats 4000000 in
theorem stable0V_any (w : World) (q : Nat) :
    Calls Tryz.prog 116 #[.slice none 0 0, .func (.func 117) #[] #[.pointer (some ⟨q, 0, none⟩)]] w fun e w' => e = .returned (.tuple #[]) ∧ w = w' := by
  have HI : ∀ w, Hid (Calls Tryz.prog 172 #[.slice none 0 0, .int .i64 0, .int .i64 0, .func (.func 117) #[] #[.pointer (some ⟨q, 0, none⟩)]] w fun e w' => e = .returned (.tuple #[]) ∧ w = w') := by
    intro w
    show Calls _ _ _ _ _
    go_enter Tryz.func172, Tryz.ntmps172
    go_wp2_with fail
    go_loopw [8] (fun iv wr => iv = .int .i64 1 ∧ w = wr) (fun _ _ => 0)
    case atStart => exact ⟨by go_num, rfl⟩
    case round =>
      obtain ⟨rfl, rfl⟩ := hrel
      go_wp2_with fail
      go_end0
      exact ⟨rfl, rfl⟩
  have HS : ∀ w, Hid (Calls Tryz.prog 149 #[.slice none 0 0, .int .i64 0, .func (.func 117) #[] #[.pointer (some ⟨q, 0, none⟩)]] w fun e w' => e = .returned (.tuple #[]) ∧ w = w') := by
    intro w
    show Calls _ _ _ _ _
    go_enter Tryz.func149, Tryz.ntmps149
    go_wp2_with fail
    go_loopw [7, 8] (fun av bv wr => av = .int .i64 0 ∧ bv = .int .i64 20 ∧ w = wr) (fun _ _ _ => 0)
    case atStart => exact ⟨by go_num, by go_num, rfl⟩
    case round =>
      obtain ⟨rfl, rfl, rfl⟩ := hrel
      go_wp2_with fail
      refine (show Calls _ _ _ _ _ from (HI w).out).mono ?_
      rintro e W ⟨rfl, rfl⟩
      go_wp2_with fail
      go_loopw [6] (fun bv wr => bv = .int .i64 20 ∧ w = wr) (fun _ _ => 0)
      case atStart => exact ⟨by go_num, rfl⟩
      case round =>
        obtain ⟨rfl, rfl⟩ := hrel
        go_wp2_with fail
        go_end0
        exact ⟨rfl, rfl⟩
  go_enter Tryz.func116, Tryz.ntmps116
  go_wp2_with fail
  refine (show Calls _ _ _ _ _ from (HS w).out).mono ?_
  rintro e W ⟨rfl, rfl⟩
  go_wp2_with fail
  go_end0
  exact ⟨rfl, rfl⟩
end Go.Proofs.YtpahkaffknnjhaaGreatDoor
end

section
/-
  A row of groups that grows: a group more, a row more in the last group.
-/
namespace Go.Proofs.YtpahkaffknnjhaaGreatDoor
set_option linter.unusedSimpArgs false
set_option linter.unusedVariables false
open Go.RowKit

/-- Groups in a row of the call's own, their rows elsewhere; the rows' values are those of L. -/
structure GLoop (B : Nat) (L : List Rw) (i : Nat) (W : World) (A : Option Addr) (c : Nat) (G : List Gr) : Prop where
  own : EOwn eGr W B A c G
  rows : ∀ r ∈ G, ERow eRw W r.a r.l
  mem : ∀ r ∈ G, ∀ x ∈ r.l, x ∈ L
  cap : ∀ r ∈ G, r.l.length ≤ r.c ∧ r.c ≤ maxLen
  ne : ∀ r ∈ G, r.l ≠ [] → ∀ a, r.a = some a → ∀ x, A = some x → a.block ≠ x.block
  nil : ∀ r ∈ G, r.a = none → r.l = []
  len : ∀ r ∈ G, r.l.length ≤ i
  size : B ≤ W.heap.size
variable {B i c : Nat} {L : List Rw} {W W' : World} {A : Option Addr} {G : List Gr}
theorem GLoop.start (hB : B ≤ W.heap.size) : GLoop B L 0 W none 0 [] :=
  ⟨EOwn.nil _ _, (by intro r hr; cases hr), (by intro r hr; cases hr), (by intro r hr; cases hr), (by intro r hr; cases hr), (by intro r hr; cases hr), (by intro r hr; cases hr), hB⟩
theorem GLoop.below (h : GLoop B L i W A c G) (hB : Below W.heap.size W W') : GLoop B L i W' A c G :=
  ⟨h.own.below hB, fun r hr => (h.rows r hr).below hB, h.mem, h.cap, h.ne, h.nil, h.len, Nat.le_trans h.size hB.size⟩
theorem erow_lt {w : World} {α : Type} {E : Elem α} {A : Option Addr} {L : List α} (h : ERow E w A L) (hl : L ≠ []) : ∀ a, A = some a → a.block < w.heap.size := by
  intro a ha
  obtain ⟨b, o, e, hb, -⟩ := h (List.length_pos_iff.2 hl)
  rw [ha] at e
  cases e
  exact hb
/-- A new group, of one row. -/
theorem GLoop.one (h : GLoop B L i W A c G) {x : Rw} (hx : x ∈ L) {w2 w3 : World} (hw2 : (W.alloc (.cells #[x.v] 37)).alloc (.cells #[.slice (some ⟨W.heap.size, 0, none⟩) 1 1] 126) = w2) {A3 : Option Addr} {c3 : Nat}
    (ho3 : EOwn eGr w3 B A3 c3 (G ++ [⟨some ⟨W.heap.size, 0, none⟩, [x], 1⟩])) (hg3 : w2.grownBy w3 (A.map (·.block))) (ha3 : A3.map (·.block) = A.map (·.block) ∨ A3.map (·.block) = some w2.heap.size) :
    GLoop B L (i + 1) w3 A3 c3 (G ++ [⟨some ⟨W.heap.size, 0, none⟩, [x], 1⟩]) := by
  have hB1 : Below W.heap.size W (W.alloc (.cells #[x.v] 37)) := (Below.refl _ _).alloc (Nat.le_refl _) _
  have hz1 : (W.alloc (.cells #[x.v] 37)).heap.size = W.heap.size + 1 := by simp
  have hB2 : Below (W.alloc (.cells #[x.v] 37)).heap.size (W.alloc (.cells #[x.v] 37)) w2 := by rw [← hw2]; exact (Below.refl _ _).alloc (Nat.le_refl _) _
  have hz2 : w2.heap.size = W.heap.size + 2 := by rw [← hw2]; simp
  have hrow : ERow eRw w2 (some ⟨W.heap.size, 0, none⟩) [x] := (ERow.lit eRw W x #[x.v] rfl _ rfl).below hB2
  have hAb : ∀ a, A = some a → a.block < W.heap.size := fun a ha => (h.own.block a ha).2
  have keep : ∀ (R : Option Addr) (l : List Rw), ERow eRw w2 R l → (l ≠ [] → ∀ a, R = some a → ∀ y, A = some y → a.block ≠ y.block) → ERow eRw w3 R l := fun R l hr hn hl => by
    refine hr.keep hg3.size (fun a ha hlt => hg3.block _ hlt ?_) hl
    intro e
    cases hA : A with
    | none => rw [hA] at e; simp at e
    | some y => rw [hA] at e; exact hn (List.length_pos_iff.1 hl) a ha y hA (by simpa using e)
  refine ⟨ho3, ?_, ?_, ?_, ?_, ?_, ?_, by have := h.size; have := hg3.size; omega⟩
  · intro r hr
    rcases List.mem_append.1 hr with hr | hr
    · exact keep _ _ ((h.rows r hr).below (hB1.then hB2)) (h.ne r hr)
    · rw [List.mem_singleton.1 hr]
      refine keep _ _ hrow fun _ a ha y hy => ?_
      cases ha
      have := hAb y hy
      show W.heap.size ≠ y.block
      omega
  · intro r hr y hy
    rcases List.mem_append.1 hr with hr | hr
    · exact h.mem r hr y hy
    · rw [List.mem_singleton.1 hr] at hy
      rw [List.mem_singleton.1 hy]; exact hx
  · intro r hr
    rcases List.mem_append.1 hr with hr | hr
    · exact h.cap r hr
    · rw [List.mem_singleton.1 hr]; exact ⟨Nat.le_refl _, by simp [maxLen]⟩
  · intro r hr hne a ha y hy
    have hy3 : some y.block = A.map (·.block) ∨ y.block = w2.heap.size := by
      rw [hy] at ha3
      rcases ha3 with e | e
      · exact .inl e
      · exact .inr (Option.some.inj e)
    rcases List.mem_append.1 hr with hr | hr
    · have hlt := erow_lt (h.rows r hr) hne a ha
      rcases hy3 with e | e
      · cases hA : A with
        | none => rw [hA] at e; simp at e
        | some z =>
          rw [hA] at e
          have := h.ne r hr hne a ha z hA
          simp at e
          omega
      · omega
    · rw [List.mem_singleton.1 hr] at ha
      cases ha
      show W.heap.size ≠ y.block
      rcases hy3 with e | e
      · cases hA : A with
        | none => rw [hA] at e; simp at e
        | some z =>
          rw [hA] at e
          have := hAb z hA
          simp at e
          omega
      · omega
  · intro r hr
    rcases List.mem_append.1 hr with hr | hr
    · exact h.nil r hr
    · rw [List.mem_singleton.1 hr]; intro e; cases e
  · intro r hr
    rcases List.mem_append.1 hr with hr | hr
    · have := h.len r hr; omega
    · rw [List.mem_singleton.1 hr]; simp
/-- A row more in the last group: its rows lie in a new block. -/
theorem GLoop.last {g : Nat} {G : List Gr} {r : Gr} (h : GLoop B L i W (some ⟨g, 0, none⟩) c (G ++ [r])) {x : Rw} (hx : x ∈ L) {w3 : World} (hB3 : Below W.heap.size W w3) {A5 : Option Addr} {c5 : Nat}
    (ho5 : EOwn eRw w3 W.heap.size A5 c5 (r.l ++ [x])) : GLoop B L (i + 1) (w3.setCell ⟨g, G.length, none⟩ (.slice A5 (r.l ++ [x]).length c5)) (some ⟨g, 0, none⟩) c (G ++ [⟨A5, r.l ++ [x], c5⟩]) := by
  have hown := h.own.below hB3
  have hgl : g < W.heap.size := (h.own.block _ rfl).2
  have hgr := grown_store w3 g G.length (.slice A5 (r.l ++ [x]).length c5)
  have keep : ∀ (R : Option Addr) (l : List Rw), ERow eRw w3 R l → (l ≠ [] → ∀ a, R = some a → a.block ≠ g) → ERow eRw (w3.setCell ⟨g, G.length, none⟩ (.slice A5 (r.l ++ [x]).length c5)) R l := fun R l hr hn hl => by
    refine hr.keep hgr.size (fun a ha hlt => hgr.block _ hlt ?_) hl
    have := hn (List.length_pos_iff.1 hl) a ha
    simpa using this
  refine ⟨?_, ?_, ?_, ?_, ?_, ?_, ?_, by have := h.size; have := hB3.size; have := hgr.size; omega⟩
  · have := hown.store (j := G.length) (k := 0) (by simp) (by decide) (⟨A5, r.l ++ [x], c5⟩ : Gr) (.slice A5 (r.l ++ [x]).length c5) rfl
    have e : (G ++ [r]).set G.length (⟨A5, r.l ++ [x], c5⟩ : Gr) = G ++ [⟨A5, r.l ++ [x], c5⟩] := by
      rw [List.set_append_right _ _ (Nat.le_refl _), Nat.sub_self]; rfl
    rw [e, show G.length * eGr.sz + 0 = G.length from Nat.mul_one _] at this
    exact this
  · intro s hs
    rcases List.mem_append.1 hs with hs | hs
    · refine keep _ _ ((h.rows s (by simp [hs])).below hB3) fun hn a ha => ?_
      exact h.ne s (by simp [hs]) hn a ha _ rfl
    · rw [List.mem_singleton.1 hs]
      refine keep _ _ ho5.row fun hn a ha => ?_
      have ha : A5 = some a := ha
      have := (ho5.block a ha).1
      omega
  · intro s hs y hy
    rcases List.mem_append.1 hs with hs | hs
    · exact h.mem s (by simp [hs]) y hy
    · rw [List.mem_singleton.1 hs] at hy
      rcases List.mem_append.1 hy with hy | hy
      · exact h.mem r (by simp) y hy
      · rw [List.mem_singleton.1 hy]; exact hx
  · intro s hs
    rcases List.mem_append.1 hs with hs | hs
    · exact h.cap s (by simp [hs])
    · rw [List.mem_singleton.1 hs]; exact ⟨ho5.cap, ho5.capMax⟩
  · intro s hs hn a ha y hy
    cases hy
    rcases List.mem_append.1 hs with hs | hs
    · exact h.ne s (by simp [hs]) hn a ha _ rfl
    · rw [List.mem_singleton.1 hs] at ha
      have ha : A5 = some a := ha
      have := (ho5.block a ha).1
      show a.block ≠ g
      omega
  · intro s hs hn
    rcases List.mem_append.1 hs with hs | hs
    · exact h.nil s (by simp [hs]) hn
    · rw [List.mem_singleton.1 hs] at hn
      have hn : A5 = none := hn
      rw [hn] at ho5
      rcases ho5.form with ⟨-, -, h⟩ | ⟨g, h, -⟩
      · simp at h
      · cases h
  · intro s hs
    rcases List.mem_append.1 hs with hs | hs
    · have := h.len s (by simp [hs]); omega
    · rw [List.mem_singleton.1 hs]
      have := h.len r (by simp)
      simp
      omega
end Go.Proofs.YtpahkaffknnjhaaGreatDoor
end

section
/-
  The contract of eval.groups: rows are sorted, and cut where neighbours are unlike.
-/
namespace Go.Proofs.YtpahkaffknnjhaaGreatDoor
set_option linter.unusedSimpArgs false
set_option linter.unusedVariables false
open Go.RowKit

/-- Groups in the block of a row of their own, their rows elsewhere. -/
structure GrsAt (B : Nat) (W : World) (A : Option Addr) (c : Nat) (G : List Gr) : Prop where
  own : EOwn eGr W B A c G
  rows : ∀ r ∈ G, RowsOk W r.a r.l
  cap : ∀ r ∈ G, r.l.length ≤ r.c ∧ r.c ≤ maxLen
  ne : ∀ r ∈ G, r.l ≠ [] → ∀ a, r.a = some a → ∀ x, A = some x → a.block ≠ x.block
  nil : ∀ r ∈ G, r.a = none → r.l = []
/-- What eval.groups answers. -/
def RetG (w : World) (L : List (List Rw)) (e : Ending) (w' : World) : Prop := ∃ A c G, e = .returned (.slice A (List.length G) c) ∧ GrsAt w.heap.size w' A c G ∧ G.map Gr.l = L ∧ Below w.heap.size w w'
set_option maxRecDepth 100000 in
set_option maxHeartbeats 8000000 in
theorem groups_any (w : World) (q : Qr) (A : Option Addr) (c : Nat) (L : List Rw) (hq : QrIn w q) (hL : RowsOk w A L) (hlc : L.length ≤ c) (hcm : c ≤ maxLen) (hnil : A = none → L = []) :
    Calls Tryz.prog 74 #[q.v, .slice A L.length c] w (RetG w (Ev.baseG true q.group L)) := by
  have HQ := Lib.hid hq
  have HL := Lib.hid hL
  have HNIL := Lib.hid hnil
  have hlen := hL.len
  have hgl := hq.gl
  obtain ⟨D, hD⟩ : ∃ D, Ev.baseG true q.group L = D := ⟨_, rfl⟩
  rw [hD]
  have HD := Lib.hid hD
  clear hq hL hD hnil
  go_enter Tryz.func74, Tryz.ntmps74
  go_upto_region 1 with (refine wpList_box_qr rfl (.tmp 0) rfl q rfl ?_; intro W1 hb1 hz1 hB1)
  have HB1 := Lib.hid hB1
  have hgw : w.heap.size ≤ w.heap.size := Nat.le_refl _
  have hgz : w.heap.size < W1.heap.size := by omega
  clear hB1 hz1
  generalize hg2 : w.heap.size = g2 at hb1 hgw hgz ⊢
  have HG2 := Lib.hid hg2
  clear hg2
  obtain ⟨c4, -⟩ := Blk.qr hb1
  by_cases hg0 : q.group = []
  · have HD2 : Hid (D = [L]) := by show _ = _; rw [← HD.out, hg0]; rfl
    rw [hg0] at c4
    clear hg0
    go_wp2_with fail
    generalize hW2 : World.alloc W1 (.cells _ _) = W2
    obtain ⟨ba2, hz2, hB2⟩ := fresh1 hW2
    clear hW2
    have hgz1 : w.heap.size ≤ W1.heap.size := HB1.out.size
    have HF : Hid (RetG w D (.returned (.slice (some ⟨W1.heap.size, 0, none⟩) 1 1)) W2) := by
      refine ⟨some ⟨W1.heap.size, 0, none⟩, 1, [⟨A, L, c⟩], rfl, ⟨ba2.own eGr [⟨A, L, c⟩] rfl (by simp [maxLen]) hgz1, ?_, ?_, ?_, ?_⟩, by rw [HD2.out]; rfl, HB1.out.then hB2⟩
      · intro r hr
        rw [List.mem_singleton.1 hr]
        exact (HL.out.below (HB1.out.then hB2))
      · intro r hr
        rw [List.mem_singleton.1 hr]
        exact ⟨hlc, hcm⟩
      · intro r hr hne a ha x hx
        rw [List.mem_singleton.1 hr] at hne ha
        cases hx
        obtain ⟨b, o, e, hb, -⟩ := HL.out.r (List.length_pos_iff.2 hne)
        have ha : A = some a := ha
        rw [ha] at e
        cases e
        show b ≠ W1.heap.size
        omega
      · intro r hr
        rw [List.mem_singleton.1 hr]
        exact HNIL.out
    clear hB2 ba2 hz2
    go_ret
    exact HF.out
  · have hgp : 0 < q.group.length := List.length_pos_iff.2 hg0
    have hge : ((q.group.length : Int) == 0) = false := by simpa using hg0
    have HD2 : Hid (D = Ev.runs (Ev.rcmp (Ev.byOf q.group)) (Srt.ssort (Ev.rcmp (Ev.byOf q.group)) L)) := by show _ = _; rw [← HD.out]; unfold Ev.baseG; rw [if_pos rfl, if_neg hg0]
    go_upto_region 4 with fail
    generalize hW2 : World.alloc W1 (.cells _ _) = W2
    obtain ⟨ba2, hz2, hB2⟩ := fresh1 hW2
    clear hW2
    have hb2 := hb1.below hB2
    have HB2 := Lib.hid (HB1.out.then hB2)
    clear hB2 hb1 HB1 c4
    obtain ⟨c4, -⟩ := Blk.qr hb2
    generalize W1.heap.size = g5 at ba2 hz2 hgz ⊢
    have HST : Hid (Blk W2 g2 26 q.cells ∧ (∃ A c, Blk W2 g5 24 [.slice A 0 c] ∧ EOwn eSo W2 (g5 + 1) A c (Ev.byOf (q.group.take 0))) ∧ g5 + 1 ≤ W2.heap.size ∧ Below w.heap.size w W2) := ⟨hb2, ⟨none, 0, ba2, EOwn.nil _ _⟩, hz2, HB2.out⟩
    clear ba2 hz2 hb2 HB2
    go_wp2_with fail
    clear c4
    go_loopw [23] (fun iv wr => ∃ k : Nat, k ≤ q.group.length ∧ iv = .int .i64 (k : Int) ∧ Hid (Blk wr g2 26 q.cells ∧ (∃ A c, Blk wr g5 24 [.slice A k c] ∧ EOwn eSo wr (g5 + 1) A c (Ev.byOf (q.group.take k))) ∧ g5 + 1 ≤ wr.heap.size ∧ Below w.heap.size w wr)) (fun iv _ => q.group.length - (intOf iv).toNat)
    case atStart => exact ⟨0, Nat.zero_le _, by go_num, HST.out⟩
    case round =>
      obtain ⟨k, hk, rfl, HJ⟩ := hrel
      clear HST
      obtain ⟨b2, ⟨A1, c1, b5, ho⟩, hz, hB⟩ := HJ.out
      have HB := Lib.hid hB
      clear HJ hB
      have hbl : (Ev.byOf (q.group.take k)).length = k := by unfold Ev.byOf; rw [List.length_map, List.length_take]; omega
      by_cases hlt : k < q.group.length
      · have hii : (k : Int) < (q.group.length : Int) := by omega
        obtain ⟨ab, ao, ha, habl, q0⟩ := int_at (HQ.out.g.below HB.out) hlt
        have HTK : Hid (Ev.byOf (q.group.take (k + 1)) = Ev.byOf (q.group.take k) ++ [⟨q.group[k], false⟩]) := by show _ = _; unfold Ev.byOf; rw [List.take_succ_eq_append_getElem hlt, List.map_append]; rfl
        generalize q.group[k] = gk at q0 HTK ⊢
        have q5 := b5.cell 0
        simp only [List.getElem?_cons_zero] at q5
        go_upto_region 7 with fail
        have hoA := ho.alloc (.cells #[.int .i64 gk, .bool false] 164)
        have hrA := ERow.lit eSo wr ⟨gk, false⟩ #[.int .i64 gk, .bool false] rfl wr.heap.size rfl
        have hne5 : ∀ a, A1 = some a → g5 + 1 ≤ a.block := fun a ha => (ho.block a ha).1
        have b5A := b5.alloc (.cells #[.int .i64 gk, .bool false] 164)
        have b2A := b2.alloc (.cells #[.int .i64 gk, .bool false] 164)
        have HBA : Hid (Below w.heap.size w (wr.alloc (.cells #[.int .i64 gk, .bool false] 164))) := HB.out.then ((Below.refl wr.heap.size wr).alloc (Nat.le_refl _) _)
        have hnb5 : some g5 ≠ A1.map (·.block) := by
          intro e
          cases hA : A1 with
          | none => rw [hA] at e; simp at e
          | some a => rw [hA] at e; have := hne5 a hA; simp at e; omega
        have hnb2 : some g2 ≠ A1.map (·.block) := by
          intro e
          cases hA : A1 with
          | none => rw [hA] at e; simp at e
          | some a => rw [hA] at e; have := hne5 a hA; simp at e; omega
        clear ha q0 habl hne5
        go_wp2_with (at_builtin; refine wpList_append_elems eSo rfl (.tmp 27) (.tmp 30) rfl k rfl hoA hbl.symm 1 rfl hrA rfl (by simp; omega) (by simp; omega) ?_; intro A3 c3 w3 ho3 hb3 hg3 ha3; have b5B := b5A.grown hg3 hnb5; obtain ⟨p0, p1, p2⟩ := Blk.c1 b5B)
        have HR : Hid (Blk (w3.setCell ⟨g5, 0, none⟩ (.slice A3 (k + 1) c3)) g2 26 q.cells ∧ (∃ A c, Blk (w3.setCell ⟨g5, 0, none⟩ (.slice A3 (k + 1) c3)) g5 24 [.slice A (k + 1) c] ∧ EOwn eSo (w3.setCell ⟨g5, 0, none⟩ (.slice A3 (k + 1) c3)) (g5 + 1) A c (Ev.byOf (q.group.take (k + 1)))) ∧ g5 + 1 ≤ (w3.setCell ⟨g5, 0, none⟩ (.slice A3 (k + 1) c3)).heap.size ∧ Below w.heap.size w (w3.setCell ⟨g5, 0, none⟩ (.slice A3 (k + 1) c3))) := by
          refine ⟨(b2A.grown hg3 hnb2).other ⟨g5, 0, none⟩ (by show g2 ≠ g5; omega) _, ⟨A3, c3, b5B.set0, ?_⟩, ?_, ?_⟩
          · rw [HTK.out]
            refine ho3.set ⟨g5, 0, none⟩ (fun a ha => ?_) _
            have := (ho3.block a ha).1
            show a.block ≠ g5
            omega
          · have h1 := hb3.size
            have h2 := (grown_store w3 g5 0 (.slice A3 (k + 1) c3)).size
            simp at h1
            omega
          · have h1 := HG2.out
            exact below_of_grown (HBA.out.trans (hb3.mono (by omega))) (grown_store w3 g5 0 _) (by omega) (Nat.le_trans HBA.out.size hb3.size)
        have HR := Lib.hid HR
        clear ho3 hb3 hg3 ha3 b5B p0 p1 p2 b5A b2A hoA hrA hnb5 hnb2
        go_roundw
        case rel => exact ⟨k + 1, by omega, by go_num, HR.out⟩
        case measure => simp [intOf]; omega
      · have hii : ¬ (k : Int) < (q.group.length : Int) := by omega
        obtain rfl : k = q.group.length := by omega
        rw [List.take_length] at ho
        go_wp2_with fail
        have hA1 : ∀ a, A1 = some a → g5 + 1 ≤ a.block ∧ a.block < wr.heap.size := ho.block
        refine (rclone_any wr A c L (HL.out.below HB.out).r hlen).mono ?_
        rintro e W3 ⟨A3, c3, rfl, ho3, hB3⟩
        have b2 := b2.below hB3
        have b5 := b5.below hB3
        have ho := ho.below hB3
        have HB3 := Lib.hid (HB.out.then hB3)
        have hz3 : wr.heap.size ≤ W3.heap.size := hB3.size
        have hwz : g5 < wr.heap.size := hz
        clear hB3
        have hW : w.heap.size ≤ wr.heap.size := HB.out.size
        clear HB hz
        generalize wr.heap.size = z at ho3 hz3 hwz hW hA1
        rcases A3 with _ | a3
        · have hL0 : L = [] := by
            rcases ho3.form with ⟨-, -, h⟩ | ⟨g, h, -⟩
            · exact h
            · cases h
          have hc3 : c3 = 0 := by
            rcases ho3.form with ⟨-, h, -⟩ | ⟨g, h, -⟩
            · exact h
            · cases h
          have HF : Hid (RetG w D (.returned (.slice none 0 0)) W3) := ⟨none, 0, [], rfl, ⟨EOwn.nil _ _, (by intro r hr; cases hr), (by intro r hr; cases hr), (by intro r hr; cases hr), (by intro r hr; cases hr)⟩, by rw [HD2.out, hL0]; rfl, HB3.out⟩
          subst hL0 hc3
          clear b2 b5 ho ho3
          go_wp2_with fail
          refine (stable0V_any _ _).mono ?_
          rintro e W4 ⟨rfl, rfl⟩
          go_wp2_with fail
          go_loopw [9, 40] (fun v9 iv wr => v9 = .slice none 0 0 ∧ iv = .int .i64 0 ∧ W3 = wr) (fun _ _ _ => 0)
          case atStart => exact ⟨rfl, by go_num, rfl⟩
          case round =>
            obtain ⟨rfl, rfl, rfl⟩ := hrel
            go_wp2_with fail
            go_ret
            exact HF.out
        · obtain ⟨g, rfl⟩ : ∃ g, a3 = ⟨g, 0, none⟩ := by
            rcases ho3.form with ⟨h, -⟩ | ⟨g, h, -⟩
            · cases h
            · exact ⟨g, Option.some.inj h⟩
          obtain ⟨sp, hbk, hspl, hzg, hLc3, hc3m⟩ := ho3.toBlk
          rw [cells_rw] at hbk hspl
          have hA1g : ∀ a, A1 = some a → a.block ≠ g := fun a ha => by have := (hA1 a ha).2; omega
          have HA1G := Lib.hid hA1g
          have HBY := Lib.hid ho
          have hbyl : (Ev.byOf q.group).length = q.group.length := by unfold Ev.byOf; simp
          have hgb : ∀ W, W3.grownBy W (some g) → Blk W g5 24 [.slice A1 q.group.length c1] ∧ ERow eSo W A1 (Ev.byOf q.group) ∧ Below w.heap.size w W := fun W hW => by
            refine ⟨b5.grown hW (by simp; omega), (HBY.out.kept hW ?_).row, below_of_grown HB3.out hW (by omega) HB3.out.size⟩
            cases hA : A1 with
            | none => exact .inl rfl
            | some a => exact .inr (by simp; exact HA1G.out a hA)
          have HGB := Lib.hid hgb
          have HCMP : Hid (CmpsV W3 g g5 (Ev.rcmp (Ev.byOf q.group)) L) := fun W hW x hx y hy => by
            obtain ⟨k1, k2, k3⟩ := HGB.out W hW
            exact gcmp_any W g5 A1 (Ev.byOf q.group) c1 (by rw [hbyl]; exact k1) k2 (by
              intro s hs
              obtain ⟨n, hn, rfl⟩ := List.mem_map.1 hs
              exact HQ.out.gin n hn) (by rw [hbyl]; omega) x y ((HL.out.in_ x hx).below k3) ((HL.out.in_ y hy).below k3)
          have HSRT := Lib.hid (stableV_any W3 g g5 L.length c3 (Ev.rcmp (Ev.byOf q.group)) (Ev.rcmp_ord _) L sp hbk HCMP.out rfl hlen hLc3)
          clear hbk hgb hA1g hA1 ho ho3
          go_wp2_with fail
          refine (show Calls _ _ _ _ _ from HSRT.out).mono ?_
          rintro e W4 ⟨rfl, hbk, hg4⟩
          obtain ⟨S, hS⟩ : ∃ S, Srt.ssort (Ev.rcmp (Ev.byOf q.group)) L = S := ⟨_, rfl⟩
          have HSP : Hid (S.Perm L) := by show S.Perm L; rw [← hS]; exact Srt.ssort_perm _ L
          have HD3 : Hid (D = Ev.runs (Ev.rcmp (Ev.byOf q.group)) S) := by show _ = _; rw [HD2.out, hS]
          rw [hS] at hbk
          obtain ⟨k5, k6, k7⟩ := HGB.out W4 hg4
          have hsl : S.length = L.length := HSP.out.length_eq
          have HG : Hid (ERow eRw W4 (some ⟨g, 0, none⟩) S) := (EOwn.ofBlk (E := eRw) (B := 0) (c := c3) (sp := sp) (by rw [cells_rw]; exact hbk) (by rw [cells_rw]; simpa [hsl] using hspl) (by omega) hc3m (Nat.zero_le _)).row
          have HS5 := Lib.hid k5
          have HS6 := Lib.hid k6
          have HS7 := Lib.hid k7
          have hzw : w.heap.size ≤ W4.heap.size := k7.size
          clear HSRT hbk hg4 k5 k6 k7 HGB HCMP HBY HA1G b2 b5 hS
          have HSM : Hid (∀ x ∈ S, x ∈ L) := fun x hx => HSP.out.mem_iff.1 hx
          have HST : Hid (GLoop W4.heap.size L 0 W4 none 0 [] ∧ [] = Ev.runs (Ev.rcmp (Ev.byOf q.group)) (S.take 0) ∧ Below W4.heap.size W4 W4) := ⟨GLoop.start (Nat.le_refl _), by simp [Ev.runs], Below.refl _ _⟩
          go_wp2_with fail
          go_loopw [9, 40] (fun v9 iv wr => ∃ (i : Nat) (A9 : Option Addr) (c9 : Nat) (G : List Gr), i ≤ L.length ∧ G.length ≤ i ∧ iv = .int .i64 (i : Int) ∧ v9 = .slice A9 G.length c9 ∧ Hid (GLoop W4.heap.size L i wr A9 c9 G ∧ G.map Gr.l = Ev.runs (Ev.rcmp (Ev.byOf q.group)) (S.take i) ∧ Below W4.heap.size W4 wr)) (fun _ iv _ => L.length - (intOf iv).toNat)
          case atStart => exact ⟨0, none, 0, [], Nat.zero_le _, Nat.le_refl _, by go_num, rfl, HST.out⟩
          case round =>
            obtain ⟨i, A9, c9, G, hi, hGi, rfl, rfl, HJ⟩ := hrel
            clear HST
            by_cases hlt : i < L.length
            · have hii : (i : Int) < (L.length : Int) := by omega
              have hltS : i < S.length := by omega
              obtain ⟨sb, so, e, sbl, q0⟩ := rw_at (HG.out.below HJ.out.2.2) hltS
              cases e
              rw [Nat.zero_add] at q0
              have q5 := (HS5.out.below HJ.out.2.2).cell 0
              simp only [List.getElem?_cons_zero] at q5
              obtain ⟨x, hx⟩ : ∃ x, S[i] = x := ⟨_, rfl⟩
              have HXL : Hid (x ∈ L) := HSM.out x (by rw [← hx]; exact List.getElem_mem hltS)
              have HTK : Hid (S.take (i + 1) = S.take i ++ [x]) := by show _ = _; rw [List.take_succ_eq_append_getElem hltS, hx]
              rw [hx] at q0
              clear hx
              go_upto_region 15 with fail
              go_cut [57] from 45 to 57 (fun v wx => Hid (∃ b : Bool, v = .bool b ∧ Below wr.heap.size wr wx ∧ (b = false → Ev.runs (Ev.rcmp (Ev.byOf q.group)) (S.take (i + 1)) = Ev.runs (Ev.rcmp (Ev.byOf q.group)) (S.take i) ++ [[x]]) ∧ (b = true → Ev.runs (Ev.rcmp (Ev.byOf q.group)) (S.take i) ≠ [] ∧ Ev.runs (Ev.rcmp (Ev.byOf q.group)) (S.take (i + 1)) = (Ev.runs (Ev.rcmp (Ev.byOf q.group)) (S.take i)).dropLast ++ [(Ev.runs (Ev.rcmp (Ev.byOf q.group)) (S.take i)).getLastD [] ++ [x]])))
              case first =>
                rcases Nat.eq_zero_or_pos i with h0 | h0
                · subst h0
                  have HR : Hid (Ev.runs (Ev.rcmp (Ev.byOf q.group)) (S.take (0 + 1)) = Ev.runs (Ev.rcmp (Ev.byOf q.group)) (S.take 0) ++ [[x]]) := by show _ = _; rw [HTK.out]; simp [Ev.runs, Ev.consG]
                  clear q0 q5
                  refine wp_region_plan (.take 0 (.take 1 (.take 2 (.take 3 (.take 4 (.take 5 (.take 6 (.take 7 (.take 8 (.take 9 (.run 10 [] (.take 11 (.take 12 .fin))))))))))))) (by kernel_rfl) (by kernel_rfl) (by kernel_rfl) (by kernel_rfl) ?_
                  repeat' (first | (refine hZ _ _ ?_; clear hZ) | (refine hZ _ ?_; clear hZ) | (refine hZ ?_; clear hZ) | rw [again_nil] | rw [walk_fin] | ((first | rw [walk_take] | rw [walk_run] | rw [again_cons]); intro Z hZ; simp only [sel, List.getElem?_toArray, List.getElem?_cons_zero, List.getElem?_cons_succ]; go_wp2_with (fail)))
                  go_wp2_with fail
                  go_meet
                  case rel => exact ⟨false, rfl, (Below.refl _ _).drewR, fun _ => HR.out, by simp⟩
                · obtain ⟨j, rfl⟩ : ∃ j, i = j + 1 := ⟨i - 1, by omega⟩
                  have hjS : j < S.length := by omega
                  obtain ⟨sb2, so2, e2, -, q1⟩ := rw_at (HG.out.below HJ.out.2.2) hjS
                  cases e2
                  rw [Nat.zero_add] at q1
                  obtain ⟨y, hy⟩ : ∃ y, S[j] = y := ⟨_, rfl⟩
                  have HYL : Hid (y ∈ L) := HSM.out y (by rw [← hy]; exact List.getElem_mem hjS)
                  have HTJ : Hid (S.take (j + 1) = S.take j ++ [y]) := by show _ = _; rw [List.take_succ_eq_append_getElem hjS, hy]
                  have HR : Hid (Ev.runs (Ev.rcmp (Ev.byOf q.group)) (S.take (j + 1 + 1)) = Ev.snocG (Ev.rcmp (Ev.byOf q.group)) (Ev.runs (Ev.rcmp (Ev.byOf q.group)) (S.take (j + 1))) (some y) x) := by
                    show _ = _
                    rw [HTK.out, HTJ.out, List.append_assoc]
                    exact Ev.runs_snoc _ _ _
                  have HNE : Hid (Ev.runs (Ev.rcmp (Ev.byOf q.group)) (S.take (j + 1)) ≠ []) := Ev.runs_ne _ (by rw [HTJ.out]; simp)
                  rw [hy] at q1
                  clear hy
                  have hji : ((j + 1 : Nat) : Int) - 1 = (j : Int) := by omega
                  have HW : Hid (Below w.heap.size w wr) := HS7.out.trans (HJ.out.2.2.mono hzw)
                  have HCALL := Lib.hid (pordr_any wr.drew A1 y.a x.a c1 y.c x.c (Ev.byOf q.group) y.l x.l (HS6.out.below (HJ.out.2.2.trans ((Below.refl _ _).drewR.mono HJ.out.2.2.size))) (by
                    intro s hs
                    obtain ⟨n, hn, rfl⟩ := List.mem_map.1 hs
                    exact HQ.out.gin n hn) (by unfold Ev.byOf; rw [List.length_map]; omega) ((HL.out.in_ y HYL.out).below HW.out.drewR) ((HL.out.in_ x HXL.out).below HW.out.drewR))
                  rw [show (Ev.byOf q.group).length = q.group.length by unfold Ev.byOf; simp] at HCALL
                  refine wp_region_plan (.take 0 (.take 1 (.take 2 (.take 3 (.take 4 (.take 5 (.take 6 (.take 7 (.take 8 (.take 9 (.run 10 [] (.take 11 (.take 12 .fin))))))))))))) (by kernel_rfl) (by kernel_rfl) (by kernel_rfl) (by kernel_rfl) ?_
                  repeat' (first | (refine hZ _ _ ?_; clear hZ) | (refine hZ _ ?_; clear hZ) | (refine hZ ?_; clear hZ) | rw [again_nil] | rw [walk_fin] | ((first | rw [walk_take] | rw [walk_run] | rw [again_cons]); intro Z hZ; simp only [sel, List.getElem?_toArray, List.getElem?_cons_zero, List.getElem?_cons_succ]; go_wp2_with (fail)))
                  refine (show Calls _ _ #[.slice A1 q.group.length c1, y.v, x.v] _ _ from HCALL.out).mono ?_
                  rintro e W5 ⟨rfl, hB5⟩
                  have q5' := cell_later hB5 (show wr.drew.cell? _ = _ from q5)
                  have q1' := cell_later hB5 (show wr.drew.cell? _ = _ from q1)
                  have HB5 := Lib.hid ((Below.refl wr.heap.size wr).drewR.trans (hB5.mono (Nat.le_refl _)))
                  obtain ⟨o, ho⟩ : ∃ o, Ev.ordR (Ev.byOf q.group) y.l x.l = o := ⟨_, rfl⟩
                  have HO : Hid (Ev.rcmp (Ev.byOf q.group) y x = o) := ho
                  rw [ho]
                  clear hB5 q5 q1 q0 HCALL ho
                  by_cases hoz : o = 0
                  · have HRR : Hid (Ev.runs (Ev.rcmp (Ev.byOf q.group)) (S.take (j + 1)) ≠ [] ∧ Ev.runs (Ev.rcmp (Ev.byOf q.group)) (S.take (j + 1 + 1)) = (Ev.runs (Ev.rcmp (Ev.byOf q.group)) (S.take (j + 1))).dropLast ++ [(Ev.runs (Ev.rcmp (Ev.byOf q.group)) (S.take (j + 1))).getLastD [] ++ [x]]) := by
                      refine ⟨HNE.out, ?_⟩
                      rw [HR.out]
                      show (if _ then _ else _) = _
                      rw [if_pos (by rw [HO.out]; exact hoz)]
                    subst hoz
                    go_wp2_with fail
                    repeat' (first | (refine hZ _ _ ?_; clear hZ) | (refine hZ _ ?_; clear hZ) | (refine hZ ?_; clear hZ) | rw [again_nil] | rw [walk_fin] | ((first | rw [walk_take] | rw [walk_run] | rw [again_cons]); intro Z hZ; simp only [sel, List.getElem?_toArray, List.getElem?_cons_zero, List.getElem?_cons_succ]; go_wp2_with (fail)))
                    go_wp2_with fail
                    go_meet
                    case rel => exact ⟨true, rfl, HB5.out, by simp, fun _ => HRR.out⟩
                  · have HRR : Hid (Ev.runs (Ev.rcmp (Ev.byOf q.group)) (S.take (j + 1 + 1)) = Ev.runs (Ev.rcmp (Ev.byOf q.group)) (S.take (j + 1)) ++ [[x]]) := by
                      show _ = _
                      rw [HR.out]
                      show (if _ then _ else _) = _
                      rw [if_neg (by rw [HO.out]; exact hoz)]
                    have hob : (o == 0) = false := by simpa using hoz
                    go_wp2_with fail
                    repeat' (first | (refine hZ _ _ ?_; clear hZ) | (refine hZ _ ?_; clear hZ) | (refine hZ ?_; clear hZ) | rw [again_nil] | rw [walk_fin] | ((first | rw [walk_take] | rw [walk_run] | rw [again_cons]); intro Z hZ; simp only [sel, List.getElem?_toArray, List.getElem?_cons_zero, List.getElem?_cons_succ]; go_wp2_with (fail)))
                    go_wp2_with fail
                    go_meet
                    case rel => exact ⟨false, rfl, HB5.out, fun _ => HRR.out, by simp⟩
              case rest =>
                obtain ⟨b, rfl, hB5, hbf, hbt⟩ := hcut.out
                clear hcut q0 q5
                have HB5 := Lib.hid hB5
                have HJ5 : Hid (GLoop W4.heap.size L i wc A9 c9 G ∧ Below W4.heap.size W4 wc) := ⟨HJ.out.1.below hB5, HJ.out.2.2.trans (hB5.mono HJ.out.2.2.size)⟩
                have HGM : Hid (G.map Gr.l = Ev.runs (Ev.rcmp (Ev.byOf q.group)) (S.take i)) := HJ.out.2.1
                clear hB5 HJ
                cases b with
                | false =>
                  have HRN : Hid (Ev.runs (Ev.rcmp (Ev.byOf q.group)) (S.take (i + 1)) = (G ++ [(⟨some ⟨wc.heap.size, 0, none⟩, [x], 1⟩ : Gr)]).map Gr.l) := by show _ = _; rw [hbf rfl, ← HGM.out]; simp
                  clear hbf hbt
                  go_upto_region 18 with fail
                  have hoA := (HJ5.out.1.own.alloc (.cells #[.slice x.a x.l.length x.c] 37)).alloc (.cells #[.slice (some ⟨wc.heap.size, 0, none⟩) 1 1] 126)
                  have hrA := ERow.lit eGr (wc.alloc (.cells #[.slice x.a x.l.length x.c] 37)) ⟨some ⟨wc.heap.size, 0, none⟩, [x], 1⟩ #[.slice (some ⟨wc.heap.size, 0, none⟩) 1 1] rfl _ rfl
                  have hz1 : (wc.alloc (.cells #[.slice x.a x.l.length x.c] 37)).heap.size = wc.heap.size + 1 := by simp
                  rw [hz1] at hrA
                  unfold Rw.v
                  go_wp2_with (at_builtin; refine wpList_append_elems eGr rfl (.tmp 74) (.tmp 78) rfl _ rfl hoA rfl 1 rfl hrA rfl (by simp; omega) (by have := HJ5.out.1.size; simp; omega) ?_; intro A3 c3' w3 ho3 hb3 hg3 ha3)
                  have HR : Hid (GLoop W4.heap.size L (i + 1) w3 A3 c3' (G ++ [(⟨some ⟨wc.heap.size, 0, none⟩, [x], 1⟩ : Gr)]) ∧ (G ++ [(⟨some ⟨wc.heap.size, 0, none⟩, [x], 1⟩ : Gr)]).map Gr.l = Ev.runs (Ev.rcmp (Ev.byOf q.group)) (S.take (i + 1)) ∧ Below W4.heap.size W4 w3) :=
                    ⟨HJ5.out.1.one HXL.out rfl ho3 hg3 ha3, HRN.out.symm, (HJ5.out.2.trans ((((Below.refl wc.heap.size wc).alloc (Nat.le_refl _) _).then ((Below.refl _ _).alloc (Nat.le_refl _) _)).mono HJ5.out.1.size)).trans hb3⟩
                  clear hoA hrA ho3 hb3 hg3 ha3
                  go_roundw
                  case rel => exact ⟨i + 1, A3, c3', _, by omega, by simp; omega, by go_num, by simp, HR.out⟩
                  case measure => simp [intOf]; omega
                | true =>
                  obtain ⟨hne, hrun⟩ := hbt rfl
                  clear hbf hbt
                  have hG0 : G ≠ [] := fun e => hne (by rw [← HGM.out, e]; rfl)
                  obtain ⟨G', r, rfl⟩ : ∃ G' r, G = G' ++ [r] := ⟨G.dropLast, G.getLast hG0, (List.dropLast_concat_getLast hG0).symm⟩
                  have HRN : Hid (∀ A5 c5, Ev.runs (Ev.rcmp (Ev.byOf q.group)) (S.take (i + 1)) = (G' ++ [(⟨A5, r.l ++ [x], c5⟩ : Gr)]).map Gr.l) := fun A5 c5 => by
                    rw [hrun, ← HGM.out]
                    simp
                  clear hne hrun hG0
                  obtain ⟨g9, rfl⟩ : ∃ g9, A9 = some ⟨g9, 0, none⟩ := by
                    rcases HJ5.out.1.own.form with ⟨-, -, h⟩ | ⟨g9, h, -⟩
                    · simp at h
                    · exact ⟨g9, h⟩
                  have q9 : wc.cell? ⟨g9, G'.length, none⟩ = some r.h := by
                    have := HJ5.out.1.own.cell (j := G'.length) (k := 0) (v := r.h) (by simp) (by simp; rfl)
                    rw [show G'.length * eGr.sz + 0 = G'.length from Nat.mul_one _] at this
                    exact this
                  have hrc := HJ5.out.1.cap r (by simp)
                  have hrl := HJ5.out.1.len r (by simp)
                  have hGl : (G' ++ [r]).length = G'.length + 1 := by simp
                  rw [hGl] at hGi ⊢
                  unfold Gr.h at q9
                  unfold Rw.v
                  go_wp2_with fail
                  refine (clip_any _ r.a r.l.length r.c hrc.1 hrc.2).mono ?_
                  rintro e W6 ⟨rfl, rfl⟩
                  have hroA := (HJ5.out.1.rows r (by simp)).below ((Below.refl wc.heap.size wc).alloc (Nat.le_refl _) (.cells #[.slice x.a x.l.length x.c] 37))
                  have hrA := ERow.lit eRw wc x #[.slice x.a x.l.length x.c] rfl wc.heap.size rfl
                  have hBA : Below wc.heap.size wc (wc.alloc (.cells #[.slice x.a x.l.length x.c] 37)) := (Below.refl wc.heap.size wc).alloc (Nat.le_refl _) _
                  have q9a := cell_later hBA q9
                  have hnl : r.a = none → r.l.length = 0 := fun e => by rw [HJ5.out.1.nil r (by simp) e]; rfl
                  have hoG := HJ5.out.1.own.alloc (.cells #[.slice x.a x.l.length x.c] 37)
                  go_wp2_with (at_builtin; refine wpList_append_full eRw rfl (.tmp 68) (.tmp 70) rfl r.l.length rfl hroA rfl 1 ⟨wc.heap.size, 0, none⟩ rfl hrA rfl (by decide) (by simp; omega) hnl ?_; intro A5 c5 w5 ho5 hb5; have q9b := cell_later hb5 q9a; have f9b := (hoG.below hb5).free G'.length)
                  have HR : Hid (GLoop W4.heap.size L (i + 1) (w5.setCell ⟨g9, G'.length, none⟩ (.slice A5 (r.l.length + 1) c5)) (some ⟨g9, 0, none⟩) c9 (G' ++ [(⟨A5, r.l ++ [x], c5⟩ : Gr)]) ∧ (G' ++ [(⟨A5, r.l ++ [x], c5⟩ : Gr)]).map Gr.l = Ev.runs (Ev.rcmp (Ev.byOf q.group)) (S.take (i + 1)) ∧ Below W4.heap.size W4 (w5.setCell ⟨g9, G'.length, none⟩ (.slice A5 (r.l.length + 1) c5))) := by
                    have hbb : Below wc.heap.size wc w5 := hBA.then hb5
                    have h1 := HJ5.out.1.last HXL.out hbb (ho5.mono (by simp))
                    rw [show (r.l ++ [x]).length = r.l.length + 1 by simp] at h1
                    refine ⟨h1, (HRN.out A5 c5).symm, ?_⟩
                    have hg9 : W4.heap.size ≤ g9 := (HJ5.out.1.own.block _ rfl).1
                    have := HJ5.out.1.size
                    exact below_of_grown (HJ5.out.2.trans (hbb.mono HJ5.out.1.size)) (grown_store w5 g9 G'.length _) hg9 (Nat.le_trans HJ5.out.1.size hbb.size)
                  clear hoG hroA hrA hBA q9 q9a q9b f9b ho5 hb5 hnl
                  go_roundw
                  case rel => exact ⟨i + 1, _, c9, _, by omega, by simp; omega, by go_num, by simp, HR.out⟩
                  case measure => simp [intOf]; omega
            · have hii : ¬ (i : Int) < (L.length : Int) := by omega
              obtain rfl : i = L.length := by omega
              have HF : Hid (RetG w D (.returned (.slice A9 G.length c9)) wr) := by
                obtain ⟨h1, h2, h3⟩ := HJ.out
                have hb := HS7.out.trans (h3.mono hzw)
                refine ⟨A9, c9, G, rfl, ⟨h1.own.mono hzw, fun r hr => ⟨h1.rows r hr, fun x hx => (HL.out.in_ x (h1.mem r hr x hx)).below hb, by have := h1.len r hr; omega⟩, h1.cap, h1.ne, h1.nil⟩, ?_, hb⟩
                rw [h2, HD3.out, List.take_of_length_le (by omega)]
              go_wp2_with fail
              go_ret
              exact HF.out
end Go.Proofs.YtpahkaffknnjhaaGreatDoor
end

section
/-
  A row of rows that grows: each row lies in a block of its own.
-/
namespace Go.Proofs.YtpahkaffknnjhaaGreatDoor
set_option linter.unusedSimpArgs false
set_option linter.unusedVariables false
open Go.RowKit

/-- Rows of the call's own, in a row of the call's own. -/
structure RLoop (B : Nat) (W : World) (A : Option Addr) (c : Nat) (R : List Rw) : Prop where
  own : EOwn eRw W B A c R
  rows : ∀ r ∈ R, ERow eVa W r.a r.l
  cap : ∀ r ∈ R, r.l.length ≤ r.c ∧ r.c ≤ maxLen
  ok : ∀ r ∈ R, ∀ v ∈ r.l, v.ok
  ne : ∀ r ∈ R, r.l ≠ [] → ∀ a, r.a = some a → ∀ x, A = some x → a.block ≠ x.block
  size : B ≤ W.heap.size
variable {B c : Nat} {W W' : World} {A : Option Addr} {R : List Rw}
theorem RLoop.start (hB : B ≤ W.heap.size) : RLoop B W none 0 [] :=
  ⟨EOwn.nil _ _, (by intro r hr; cases hr), (by intro r hr; cases hr), (by intro r hr; cases hr), (by intro r hr; cases hr), hB⟩
theorem RLoop.below (h : RLoop B W A c R) (hB : Below W.heap.size W W') : RLoop B W' A c R :=
  ⟨h.own.below hB, fun r hr => (h.rows r hr).below hB, h.cap, h.ok, h.ne, Nat.le_trans h.size hB.size⟩
/-- Behind a row that came since. -/
theorem RLoop.one (h : RLoop B W A c R) {w1 w2 w3 : World} (hB1 : Below W.heap.size W w1) {r : Rw} (hr : EOwn eVa w1 W.heap.size r.a r.c r.l) (hok : ∀ v ∈ r.l, v.ok) (hw2 : w1.alloc (.cells #[r.v] 37) = w2) {A3 : Option Addr} {c3 : Nat}
    (ho3 : EOwn eRw w3 B A3 c3 (R ++ [r])) (hg3 : w2.grownBy w3 (A.map (·.block))) (ha3 : A3.map (·.block) = A.map (·.block) ∨ A3.map (·.block) = some w2.heap.size) :
    RLoop B w3 A3 c3 (R ++ [r]) := by
  have hB2 : Below w1.heap.size w1 w2 := by rw [← hw2]; exact (Below.refl _ _).alloc (Nat.le_refl _) _
  have hz1 := hB1.size
  have hz2 := hB2.size
  have hAb : ∀ a, A = some a → a.block < W.heap.size := fun a ha => (h.own.block a ha).2
  have keep : ∀ (P : Option Addr) (l : List Va), ERow eVa w2 P l → (l ≠ [] → ∀ a, P = some a → ∀ y, A = some y → a.block ≠ y.block) → ERow eVa w3 P l := fun P l hr hn hl => by
    refine hr.keep hg3.size (fun a ha hlt => hg3.block _ hlt ?_) hl
    intro e
    cases hA : A with
    | none => rw [hA] at e; simp at e
    | some y => rw [hA] at e; exact hn (List.length_pos_iff.1 hl) a ha y hA (by simpa using e)
  refine ⟨ho3, ?_, ?_, ?_, ?_, by have := h.size; have := hg3.size; omega⟩
  · intro s hs
    rcases List.mem_append.1 hs with hs | hs
    · exact keep _ _ ((h.rows s hs).below (hB1.then hB2)) (h.ne s hs)
    · rw [List.mem_singleton.1 hs]
      refine keep _ _ (hr.row.below hB2) fun _ a ha y hy => ?_
      have := hAb y hy
      have := (hr.block a ha).1
      omega
  · intro s hs
    rcases List.mem_append.1 hs with hs | hs
    · exact h.cap s hs
    · rw [List.mem_singleton.1 hs]; exact ⟨hr.cap, hr.capMax⟩
  · intro s hs
    rcases List.mem_append.1 hs with hs | hs
    · exact h.ok s hs
    · rw [List.mem_singleton.1 hs]; exact hok
  · intro s hs hne a ha y hy
    have hy3 : some y.block = A.map (·.block) ∨ y.block = w2.heap.size := by
      rw [hy] at ha3
      rcases ha3 with e | e
      · exact .inl e
      · exact .inr (Option.some.inj e)
    rcases List.mem_append.1 hs with hs | hs
    · have hlt := erow_lt (h.rows s hs) hne a ha
      rcases hy3 with e | e
      · cases hA : A with
        | none => rw [hA] at e; simp at e
        | some z =>
          rw [hA] at e
          have := h.ne s hs hne a ha z hA
          simp at e
          omega
      · omega
    · rw [List.mem_singleton.1 hs] at ha
      have hb := hr.block a ha
      rcases hy3 with e | e
      · cases hA : A with
        | none => rw [hA] at e; simp at e
        | some z =>
          rw [hA] at e
          have := hAb z hA
          simp at e
          omega
      · omega
/-- What a call answers: rows of values. -/
def RetRows (w : World) (P : List (List Va) → Prop) (e : Ending) (w' : World) : Prop := ∃ A c R, e = .returned (.slice A (List.length R) c) ∧ RLoop w.heap.size w' A c R ∧ P (R.map Rw.l) ∧ Below w.heap.size w w'
namespace Ev
theorem mg_on {α β : Type} {cmp : β → β → Int} (f : α → β) : ∀ (X Y : List α), (Srt.mg (fun x y => cmp (f x) (f y)) X Y).map f = Srt.mg cmp (X.map f) (Y.map f)
  | [], Y => by rw [List.map_nil, Srt.mg_nil_left, Srt.mg_nil_left]
  | x :: X, [] => by rw [List.map_nil, Srt.mg_nil_right, Srt.mg_nil_right]
  | x :: X, y :: Y => by
    rw [List.map_cons, List.map_cons, Srt.mg_cons, Srt.mg_cons]
    split
    · rw [List.map_cons, mg_on f (x :: X) Y]; rfl
    · rw [List.map_cons, mg_on f X (y :: Y)]; rfl
termination_by X Y => X.length + Y.length
theorem ssort_on {α β : Type} {cmp : β → β → Int} (f : α → β) (L : List α) : (Srt.ssort (fun x y => cmp (f x) (f y)) L).map f = Srt.ssort cmp (L.map f) := by
  induction L using Srt.list_snoc with
  | h0 => rfl
  | h1 L z ih => rw [Srt.ssort_snoc, mg_on, ih, List.map_append, List.map_cons, List.map_nil, Srt.ssort_snoc]
theorem runs_flatten (cmp : Rw → Rw → Int) (S : List Rw) : (runs cmp S).flatten = S := by
  induction S with
  | nil => rfl
  | cons x S ih =>
    show (consG cmp x (runs cmp S)).flatten = x :: S
    unfold consG
    revert ih
    cases runs cmp S with
    | nil => intro ih; rw [← ih]; rfl
    | cons g G =>
      intro ih
      dsimp only
      split
      · rw [← ih]; rfl
      · rw [← ih]; rfl
theorem baseG_mem {gr : Bool} {group : List Int} {L : List Rw} : ∀ g ∈ baseG gr group L, ∀ x ∈ g, x ∈ L := by
  intro g hg x hx
  unfold baseG at hg
  split at hg
  · split at hg
    · rw [List.mem_singleton.1 hg] at hx; exact hx
    · have : x ∈ (runs (rcmp (byOf group)) (Srt.ssort (rcmp (byOf group)) L)).flatten := List.mem_flatten.2 ⟨g, hg, hx⟩
      rw [runs_flatten] at this
      exact (Srt.ssort_perm _ _).mem_iff.1 this
  · obtain ⟨r, hr, rfl⟩ := List.mem_map.1 hg
    rw [List.mem_singleton.1 hx]; exact hr
end Ev
end Go.Proofs.YtpahkaffknnjhaaGreatDoor
end

section
/-
  The contract of eval.Answer.
-/
namespace Go.Proofs.YtpahkaffknnjhaaGreatDoor
set_option linter.unusedSimpArgs false
set_option linter.unusedVariables false
open Go.RowKit

namespace Ev
theorem runs_len (cmp : Rw → Rw → Int) (S : List Rw) : (runs cmp S).length ≤ S.length := by
  induction S with
  | nil => exact Nat.le_refl _
  | cons x S ih =>
    show (consG cmp x (runs cmp S)).length ≤ _
    unfold consG
    revert ih
    cases runs cmp S with
    | nil => intro _; simp
    | cons g G =>
      intro ih
      dsimp only
      split <;> simp at ih ⊢ <;> omega
theorem baseG_len (gr : Bool) (group : List Int) (L : List Rw) : (baseG gr group L).length ≤ max L.length 1 := by
  unfold baseG
  split
  · split
    · simp; omega
    · have := runs_len (rcmp (byOf group)) (Srt.ssort (rcmp (byOf group)) L)
      rw [Srt.ssort_length] at this
      omega
  · simp; omega
theorem limit_map {α β : Type} (f : α → β) (n : Int) (l : List α) : limit n (l.map f) = (limit n l).map f := by
  unfold limit
  rw [List.length_map]
  split
  · rw [List.map_take]
  · rfl
theorem limit_len {α : Type} (n : Int) (l : List α) : (limit n l).length = if 0 ≤ n ∧ n < (l.length : Int) then n.toNat else l.length := by
  unfold limit
  split
  · next h => rw [List.length_take]; omega
  · rfl
theorem limit_get {α : Type} (n : Int) (l : List α) (i : Nat) (h : i < (limit n l).length) : ∃ h' : i < l.length, (limit n l)[i] = l[i] := by
  have h1 := limit_len n l
  by_cases hc : 0 ≤ n ∧ n < (l.length : Int)
  · rw [if_pos hc] at h1
    refine ⟨by omega, ?_⟩
    simp only [limit, if_pos hc, List.getElem_take]
  · rw [if_neg hc] at h1
    refine ⟨by omega, ?_⟩
    simp only [limit, if_neg hc]
end Ev
theorem Ev.foldV_ok {w W : World} {n : Nd} (hn : NodeIn w n) {A : Option Addr} {L : List Rw} (hL : RowsOk W A L) : (Ev.foldV n L).ok := by
  have hv : ∀ v ∈ Ev.argsV n L, v.ok := fun v hv => by
    obtain ⟨y, hy, rfl⟩ := List.mem_map.1 hv
    exact Ev.argV_ok (hL.in_ y hy).ok hn
  unfold Ev.foldV
  split
  · generalize hm : min L.length 2147483647 = m
    have hm2 : m ≤ 2147483647 := by omega
    refine ⟨by show (-9223372036854775808 : Int) ≤ 1; decide, by show (1 : Int) ≤ 9223372036854775807; decide, by show (-9223372036854775808 : Int) ≤ (m : Int); omega, by show (m : Int) ≤ 9223372036854775807; omega, by show 0 < 18446744073709551616; decide⟩
  · split
    · unfold Ev.sumV
      split
      · exact Ev.nul_ok
      · exact Ev.intV_ok
    · exact Ev.bestV_ok _ _ hv
theorem Ev.itemV_ok {w W : World} {n : Nd} (hn : NodeIn w n) {A : Option Addr} {L : List Rw} (hL : RowsOk W A L) : (Ev.itemV n L).ok := by
  unfold Ev.itemV
  split
  · exact Ev.foldV_ok hn hL
  · exact Ev.eval_ok hL.first.ok hn
theorem GLoop.start0 {W : World} {L : List Rw} {B : Nat} (hB : B ≤ W.heap.size) : GLoop B L 0 (W.alloc (.cells #[] 126)) (some ⟨W.heap.size, 0, none⟩) 0 [] :=
  ⟨EOwn.new W [] (by simp [maxLen]) hB #[] rfl, (by intro r hr; cases hr), (by intro r hr; cases hr), (by intro r hr; cases hr), (by intro r hr; cases hr), (by intro r hr; cases hr), (by intro r hr; cases hr), by simp; omega⟩
theorem GLoop.grs {w W : World} {B B' i c : Nat} {L : List Rw} {A : Option Addr} {G : List Gr} (h : GLoop B L i W A c G) (hB : B' ≤ B) (hi : i ≤ 1000000) (hL : ∀ x ∈ L, RowOk w x.a x.l) (hb : Below w.heap.size w W) : GrsAt B' W A c G :=
  ⟨h.own.mono hB, fun r hr => ⟨h.rows r hr, fun x hx => (hL x (h.mem r hr x hx)).below hb, by have := h.len r hr; omega⟩, h.cap, h.ne, h.nil⟩
theorem GrsAt.below {B : Nat} {W W' : World} {A : Option Addr} {c : Nat} {G : List Gr} (h : GrsAt B W A c G) (hB : Below W.heap.size W W') : GrsAt B W' A c G :=
  ⟨h.own.below hB, fun r hr => (h.rows r hr).below hB, h.cap, h.ne, h.nil⟩
set_option maxRecDepth 100000 in
set_option maxHeartbeats 16000000 in
theorem answer_any (w : World) (q : Qr) (A : Option Addr) (c : Nat) (L : List Rw) (hq : QrIn w q) (hL : RowsOk w A L) (hlc : L.length ≤ c) (hcm : c ≤ maxLen) (hnil : A = none → L = []) :
    Calls Tryz.prog 39 #[q.v, .slice A L.length c] w (RetRows w (fun R => R = Ev.answerV q.grouped q.group q.items q.order q.lim L)) := by
  have HQ := Lib.hid hq
  have HL := Lib.hid hL
  have HNIL := Lib.hid hnil
  have hlen := hL.len
  obtain ⟨D, hD⟩ : ∃ D, Ev.answerV q.grouped q.group q.items q.order q.lim L = D := ⟨_, rfl⟩
  rw [hD]
  have HD := Lib.hid hD
  clear hq hL hD hnil
  go_enter Tryz.func39, Tryz.ntmps39
  go_upto_region 1 with (refine wpList_box_qr rfl (.tmp 0) rfl q rfl ?_; intro W1 hb1 hz1 hB1)
  have HB1 := Lib.hid hB1
  have hw1 : w.heap.size ≤ W1.heap.size := hB1.size
  clear hB1
  have hg2lt : w.heap.size < W1.heap.size := by omega
  generalize hg2 : w.heap.size = g2 at hb1 hg2lt ⊢
  have HG2 := Lib.hid hg2
  clear hg2 hz1
  go_upto_region 2 with fail
  have hB2 : Below W1.heap.size W1 (W1.alloc (.cells #[] 126)) := (Below.refl _ _).alloc (Nat.le_refl _) _
  have HST : Hid (GLoop (g2 + 1) L 0 (W1.alloc (.cells #[] 126)) (some ⟨W1.heap.size, 0, none⟩) 0 []) := GLoop.start0 hg2lt
  have HBK : Hid (Blk (W1.alloc (.cells #[] 126)) g2 26 q.cells) := hb1.below hB2
  have HB2 := Lib.hid (HB1.out.then hB2)
  have hz2 : g2 < (W1.alloc (.cells #[] 126)).heap.size := by simp; omega
  clear hb1 hB2 HB1
  generalize (W1.alloc (.cells #[] 126)) = W2 at HST HBK HB2 hz2 ⊢
  generalize W1.heap.size = g5 at HST ⊢
  obtain ⟨-, c5, -⟩ := Blk.qr HBK.out
  go_upto_if 16 with fail
  go_cut [5] (fun v5 wx => ∃ (A5 : Option Addr) (c5 : Nat) (G : List Gr), v5 = .slice A5 G.length c5 ∧ Hid (GrsAt (g2 + 1) wx A5 c5 G ∧ G.map Gr.l = Ev.baseG q.grouped q.group L ∧ Blk wx g2 26 q.cells ∧ Below w.heap.size w wx))
  case first =>
    cases hgr : q.grouped with
    | true =>
      go_wp2_with (refine wpList_load_qr rfl (.tmp 2) rfl g2 rfl HBK.out ?_)
      refine (groups_any W2 q A c L (HQ.out.below HB2.out) (HL.out.below HB2.out) hlc hcm HNIL.out).mono ?_
      rintro e W3 ⟨A3, c3, G, rfl, h1, h2, h3⟩
      have HR : Hid (GrsAt (g2 + 1) W3 A3 c3 G ∧ G.map Gr.l = Ev.baseG true q.group L ∧ Blk W3 g2 26 q.cells ∧ Below w.heap.size w W3) :=
        ⟨⟨h1.own.mono hz2, h1.rows, h1.cap, h1.ne, h1.nil⟩, h2, HBK.out.below h3, HB2.out.then h3⟩
      clear h1 h2 h3 c5
      go_wp2_with fail
      go_meet
      case rel => exact ⟨A3, c3, G, rfl, by rw [hgr]; exact HR.out⟩
    | false =>
      have HST2 : Hid (GLoop (g2 + 1) L 0 W2 (some ⟨g5, 0, none⟩) 0 [] ∧ [] = (L.take 0).map (fun r => [r]) ∧ Blk W2 g2 26 q.cells ∧ Below w.heap.size w W2) := ⟨HST.out, by simp, HBK.out, HB2.out⟩
      clear HST HBK HB2 hz2 c5
      go_wp2_with fail
      go_loopw [5, 22] (fun v5 iv wr => ∃ (i : Nat) (A5 : Option Addr) (c5 : Nat) (G : List Gr), i ≤ L.length ∧ G.length ≤ i ∧ iv = .int .i64 (i : Int) ∧ v5 = .slice A5 G.length c5 ∧ Hid (GLoop (g2 + 1) L i wr A5 c5 G ∧ G.map Gr.l = (L.take i).map (fun r => [r]) ∧ Blk wr g2 26 q.cells ∧ Below w.heap.size w wr)) (fun _ iv _ => L.length - (intOf iv).toNat)
      case atStart => exact ⟨0, _, 0, [], Nat.zero_le _, Nat.le_refl _, by go_num, rfl, HST2.out⟩
      case round =>
        obtain ⟨i, A5, c5, G, hi, hGi, rfl, rfl, HJ⟩ := hrel
        clear HST2
        by_cases hlt : i < L.length
        · have hii : (i : Int) < (L.length : Int) := by omega
          obtain ⟨sb, so, rfl, sbl, q0⟩ := rw_at (HL.out.r.below HJ.out.2.2.2) hlt
          obtain ⟨x, hx⟩ : ∃ x, L[i] = x := ⟨_, rfl⟩
          have HXL : Hid (x ∈ L) := by show x ∈ L; rw [← hx]; exact List.getElem_mem hlt
          have HTK : Hid (L.take (i + 1) = L.take i ++ [x]) := by show _ = _; rw [List.take_succ_eq_append_getElem hlt, hx]
          rw [hx] at q0
          clear hx
          go_upto_region 7 with fail
          have hoA := (HJ.out.1.own.alloc (.cells #[.slice x.a x.l.length x.c] 37)).alloc (.cells #[.slice (some ⟨wr.heap.size, 0, none⟩) 1 1] 126)
          have hrA := ERow.lit eGr (wr.alloc (.cells #[.slice x.a x.l.length x.c] 37)) ⟨some ⟨wr.heap.size, 0, none⟩, [x], 1⟩ #[.slice (some ⟨wr.heap.size, 0, none⟩) 1 1] rfl _ rfl
          have hz1 : (wr.alloc (.cells #[.slice x.a x.l.length x.c] 37)).heap.size = wr.heap.size + 1 := by simp
          rw [hz1] at hrA
          unfold Rw.v
          clear q0
          go_wp2_with (at_builtin; refine wpList_append_elems eGr rfl (.tmp 26) (.tmp 30) rfl _ rfl hoA rfl 1 rfl hrA rfl (by simp; omega) (by have := HJ.out.1.size; simp; omega) ?_; intro A3 c3' w3 ho3 hb3 hg3 ha3)
          have HR : Hid (GLoop (g2 + 1) L (i + 1) w3 A3 c3' (G ++ [(⟨some ⟨wr.heap.size, 0, none⟩, [x], 1⟩ : Gr)]) ∧ (G ++ [(⟨some ⟨wr.heap.size, 0, none⟩, [x], 1⟩ : Gr)]).map Gr.l = (L.take (i + 1)).map (fun r => [r]) ∧ Blk w3 g2 26 q.cells ∧ Below w.heap.size w w3) := by
            have hb2 : Below wr.heap.size wr ((wr.alloc (.cells #[.slice x.a x.l.length x.c] 37)).alloc (.cells #[.slice (some ⟨wr.heap.size, 0, none⟩) 1 1] 126)) := ((Below.refl wr.heap.size wr).alloc (Nat.le_refl _) _).then ((Below.refl _ _).alloc (Nat.le_refl _) _)
            refine ⟨HJ.out.1.one HXL.out rfl ho3 hg3 ha3, ?_, ?_, ((HJ.out.2.2.2).trans (hb2.mono HJ.out.2.2.2.size)).trans (hb3.mono (by have := HG2.out; omega))⟩
            · rw [List.map_append, HJ.out.2.1, HTK.out, List.map_append]; rfl
            · refine (HJ.out.2.2.1.below hb2).grown hg3 ?_
              intro e
              cases hA : A5 with
              | none => rw [hA] at e; simp at e
              | some a =>
                rw [hA] at e
                have h1 := (HJ.out.1.own.block a hA).1
                simp at e
                omega
          clear hoA hrA ho3 hb3 hg3 ha3
          go_roundw
          case rel => exact ⟨i + 1, A3, c3', _, by omega, by simp; omega, by go_num, by simp, HR.out⟩
          case measure => simp [intOf]; omega
        · have hii : ¬ (i : Int) < (L.length : Int) := by omega
          obtain rfl : i = L.length := by omega
          have HR : Hid (GrsAt (g2 + 1) wr A5 c5 G ∧ G.map Gr.l = Ev.baseG q.grouped q.group L ∧ Blk wr g2 26 q.cells ∧ Below w.heap.size w wr) := by
            obtain ⟨h1, h2, h3, h4⟩ := HJ.out
            refine ⟨h1.grs (Nat.le_refl _) (by omega) HL.out.in_ h4, ?_, h3, h4⟩
            rw [h2, List.take_length, hgr]
            rfl
          go_wp2_with fail
          go_meet
          case rel => exact ⟨A5, c5, G, rfl, HR.out⟩
  case rest =>
    obtain ⟨A5, c5', G, rfl, HG⟩ := hcut
    clear HST HBK HB2 hz2 c5
    obtain ⟨V, hV⟩ : ∃ V, Ev.groupsV q.grouped q.group q.order L = V := ⟨_, rfl⟩
    have HV : Hid (Srt.ssort (Ev.gcmp q.order) (G.map Gr.l) = V) := by show _ = _; rw [← hV, HG.out.2.1]; rfl
    have HDV : Hid (D = (Ev.limit q.lim V).map (Ev.rowV q.items)) := by show _ = _; rw [← HD.out, ← hV]; rfl
    clear hV
    have hGl : G.length ≤ 1000000 := by
      have h1 : (G.map Gr.l).length = G.length := List.length_map _
      rw [← h1, HG.out.2.1]
      exact Nat.le_trans (Ev.baseG_len _ _ _) (by omega)
    go_upto_region 9 with fail
    go_cut [] from 33 to 35 (fun wx => Hid (∃ G' : List Gr, GrsAt (g2 + 1) wx A5 c5' G' ∧ G'.length = G.length ∧ G'.map Gr.l = V ∧ Blk wx g2 26 q.cells ∧ Below w.heap.size w wx))
    case first =>
      have hbs := HG.out.1.own
      rcases A5 with _ | a5
      · have hG0 : G = [] := by
          rcases hbs.form with ⟨-, -, h⟩ | ⟨g, h, -⟩
          · exact h
          · cases h
        have hc0 : c5' = 0 := by
          rcases hbs.form with ⟨-, h, -⟩ | ⟨g, h, -⟩
          · exact h
          · cases h
        subst hG0 hc0
        clear hbs
        have HR : Hid (∃ G' : List Gr, GrsAt (g2 + 1) wc none 0 G' ∧ G'.length = [].length ∧ G'.map Gr.l = V ∧ Blk wc g2 26 q.cells ∧ Below w.heap.size w wc) :=
          ⟨[], HG.out.1, rfl, by rw [← HV.out]; rfl, HG.out.2.2⟩
        go_wp2_with fail
        refine (stable0G_any _ _).mono ?_
        rintro e W4 ⟨rfl, rfl⟩
        go_wp2_with fail
        go_meet
        case rel => exact HR.out
      · obtain ⟨g, rfl⟩ : ∃ g, a5 = ⟨g, 0, none⟩ := by
          rcases hbs.form with ⟨h, -⟩ | ⟨g, h, -⟩
          · cases h
          · exact ⟨g, Option.some.inj h⟩
        obtain ⟨sp, hbk, hspl, hzg, hLc3, hc3m⟩ := hbs.toBlk
        rw [cells_gr] at hbk hspl
        clear hbs
        have hgb : ∀ W, wc.grownBy W (some g) → Blk W g2 26 q.cells ∧ Below w.heap.size w W ∧ ∀ r ∈ G, RowsOk W r.a r.l := fun W hW => by
          obtain ⟨h1, h2, h3, h4⟩ := HG.out
          have hB : Below w.heap.size w W := below_of_grown h4 hW (by have := HG2.out; omega) h4.size
          refine ⟨h3.grown hW (by simp; omega), hB, fun r hr => ⟨?_, fun x hx => ?_, (h1.rows r hr).len⟩⟩
          · intro hl
            refine (h1.rows r hr).r.keep hW.size (fun a ha hlt => hW.block _ hlt ?_) hl
            have := h1.ne r hr (List.length_pos_iff.1 hl) a ha _ rfl
            simpa using this
          · refine (HL.out.in_ x ?_).below hB
            refine Ev.baseG_mem (gr := q.grouped) (group := q.group) r.l ?_ x hx
            rw [← h2]
            exact List.mem_map.2 ⟨r, hr, rfl⟩
        have HGB := Lib.hid hgb
        have HCMP : Hid (CmpsG wc g g2 (fun x y => Ev.gcmp q.order x.l y.l) G) := fun W hW x hx y hy => by
          obtain ⟨k1, k2, k3⟩ := HGB.out W hW
          exact acmp_any W g2 _ q.cells q.oa q.order q.oc k1 rfl (HQ.out.below k2).o HQ.out.oin (by have := HQ.out.ol; omega) x y (k3 x hx) (k3 y hy)
        have HSRT := Lib.hid (stableG_any wc g g2 G.length c5' (fun x y => Ev.gcmp q.order x.l y.l) ((Ev.gcmp_ord q.order).on Gr.l) G sp hbk HCMP.out rfl hGl hLc3)
        clear hbk hgb HCMP
        go_wp2_with fail
        refine (show Calls _ _ _ _ _ from HSRT.out).mono ?_
        rintro e W4 ⟨rfl, hbk, hg4⟩
        have HR : Hid (∃ G' : List Gr, GrsAt (g2 + 1) W4 (some ⟨g, 0, none⟩) c5' G' ∧ G'.length = G.length ∧ G'.map Gr.l = V ∧ Blk W4 g2 26 q.cells ∧ Below w.heap.size w W4) := by
          obtain ⟨k1, k2, k3⟩ := HGB.out W4 hg4
          have hp := Srt.ssort_perm (fun x y : Gr => Ev.gcmp q.order x.l y.l) G
          have hm : ∀ r ∈ Srt.ssort (fun x y : Gr => Ev.gcmp q.order x.l y.l) G, r ∈ G := fun r hr => hp.mem_iff.1 hr
          refine ⟨Srt.ssort (fun x y => Ev.gcmp q.order x.l y.l) G, ⟨?_, fun r hr => k3 r (hm r hr), fun r hr => HG.out.1.cap r (hm r hr), fun r hr => HG.out.1.ne r (hm r hr), fun r hr => HG.out.1.nil r (hm r hr)⟩, hp.length_eq, ?_, k1, k2⟩
          · exact EOwn.ofBlk (E := eGr) (sp := sp) (by rw [cells_gr]; exact hbk) (by rw [cells_gr]; rw [List.length_append, List.length_map, hp.length_eq]; simpa using hspl) (by rw [hp.length_eq]; exact hLc3) hc3m hzg
          · rw [← HV.out]
            exact Ev.ssort_on Gr.l G
        clear hbk hg4
        go_wp2_with fail
        go_meet
        case rel => exact HR.out
    case rest =>
      obtain ⟨G', hG', hl', hV', hQ', hB'⟩ := hcut.out
      have hcap : (G.length : Int) ≤ (c5' : Int) := by have := hG'.own.cap; omega
      have hcapm : c5' ≤ maxLen := hG'.own.capMax
      obtain ⟨-, -, -, -, c8⟩ := Blk.qr hQ'
      have HGX : Hid (GrsAt (g2 + 1) wc A5 c5' G' ∧ G'.map Gr.l = V ∧ Blk wc g2 26 q.cells ∧ Below w.heap.size w wc) := ⟨hG', hV', hQ', hB'⟩
      have HGL := Lib.hid hl'
      clear hcut hG' hV' hQ' hB' hl' HG HV
      go_upto_region 10 with fail
      go_cut [45] from 36 to 45 (fun v wx => Hid (v = .bool (decide (0 ≤ q.lim ∧ q.lim < (G.length : Int))) ∧ wc = wx))
      case first =>
        by_cases h0 : 0 ≤ q.lim
        · by_cases h1 : q.lim < (G.length : Int)
          · have HC : Hid (decide (0 ≤ q.lim ∧ q.lim < (G.length : Int)) = true) := by show _ = _; rw [decide_eq_true_iff]; exact ⟨h0, h1⟩
            go_wp2_with fail
            go_meet
            case rel => exact ⟨by rw [HC.out], rfl⟩
          · have HC : Hid (decide (0 ≤ q.lim ∧ q.lim < (G.length : Int)) = false) := by show _ = _; rw [decide_eq_false_iff_not]; omega
            go_wp2_with fail
            go_meet
            case rel => exact ⟨by rw [HC.out], rfl⟩
        · have HC : Hid (decide (0 ≤ q.lim ∧ q.lim < (G.length : Int)) = false) := by show _ = _; rw [decide_eq_false_iff_not]; omega
          go_wp2_with fail
          go_meet
          case rel => exact ⟨by rw [HC.out], rfl⟩
      case rest =>
        obtain ⟨hv, rfl⟩ := hcut.out
        subst hv
        clear hcut
        go_upto_if 45 with fail
        go_cut [5] from 45 to 49 (fun v wx => ∃ n c6 : Nat, v = .slice A5 n c6 ∧ Hid (n = (Ev.limit q.lim G').length ∧ wc = wx))
        case first =>
          by_cases hC : 0 ≤ q.lim ∧ q.lim < (G.length : Int)
          · obtain ⟨m, hm⟩ := Int.eq_ofNat_of_zero_le hC.1
            have HM : Hid (m = (Ev.limit q.lim G').length) := by show _ = _; rw [Ev.limit_len, HGL.out, if_pos hC]; omega
            rw [decide_eq_true hC]
            have hmG : (m : Int) ≤ (c5' : Int) := by omega
            rw [hm] at c8
            clear hC hm
            go_wp2_with fail
            go_meet
            case rel => exact ⟨m, c5', rfl, HM.out, rfl⟩
          · have HM : Hid (G.length = (Ev.limit q.lim G').length) := by show _ = _; rw [Ev.limit_len, HGL.out, if_neg hC]
            rw [decide_eq_false hC]
            clear hC
            go_wp2_with fail
            go_meet
            case rel => exact ⟨G.length, c5', rfl, HM.out, rfl⟩
        case rest =>
          obtain ⟨n, c6, rfl, hnn⟩ := hcut
          obtain ⟨hn, rfl⟩ := hnn.out
          clear hnn
          obtain ⟨T, hT⟩ : ∃ T, Ev.limit q.lim G' = T := ⟨_, rfl⟩
          have HDT : Hid (D = (T.map Gr.l).map (Ev.rowV q.items)) := by show _ = _; rw [HDV.out, ← HGX.out.2.1, Ev.limit_map, hT]
          have HTG : Hid (∀ i (h : i < T.length), ∃ g, A5 = some ⟨g, 0, none⟩ ∧ g < wc.heap.size ∧ wc.cell? ⟨g, i, none⟩ = some T[i].h ∧ RowsOk wc T[i].a T[i].l ∧ T[i].l.length ≤ T[i].c ∧ (T[i].a = none → T[i].l = [])) := fun i h => by
            subst hT
            obtain ⟨h', e⟩ := Ev.limit_get q.lim G' i h
            rw [e]
            have hm : G'[i] ∈ G' := List.getElem_mem h'
            obtain ⟨gg, hgg⟩ : ∃ g, A5 = some ⟨g, 0, none⟩ := by
              rcases HGX.out.1.own.form with ⟨-, -, h⟩ | ⟨g, h, -⟩
              · rw [h] at h'; simp at h'
              · exact ⟨g, h⟩
            subst hgg
            refine ⟨gg, rfl, (HGX.out.1.own.block _ rfl).2, ?_, HGX.out.1.rows _ hm, (HGX.out.1.cap _ hm).1, HGX.out.1.nil _ hm⟩
            have := HGX.out.1.own.cell (j := i) (k := 0) (v := G'[i].h) h' rfl
            rwa [show i * eGr.sz + 0 = i from Nat.mul_one _] at this
          have hTn : n = T.length := by rw [hn, hT]
          have hTl : T.length ≤ 1000000 := by rw [← hT, Ev.limit_len, HGL.out]; split <;> omega
          have HQX : Hid (Blk wc g2 26 q.cells ∧ Below w.heap.size w wc) := HGX.out.2.2
          clear hn hT HGX HGL HDV hcap hcapm c8
          subst hTn
          have HST : Hid (([] : List Rw).length = 0 ∧ RLoop wc.heap.size wc none 0 [] ∧ [] = ((T.take 0).map Gr.l).map (Ev.rowV q.items) ∧ Below wc.heap.size wc wc) := ⟨rfl, RLoop.start (Nat.le_refl _), by simp, Below.refl _ _⟩
          go_wp2_with fail
          go_loopw [8, 52] (fun v8 iv wr => ∃ (i : Nat) (A8 : Option Addr) (c8 : Nat) (R : List Rw), i ≤ T.length ∧ iv = .int .i64 (i : Int) ∧ v8 = .slice A8 i c8 ∧ Hid (R.length = i ∧ RLoop wc.heap.size wr A8 c8 R ∧ R.map Rw.l = ((T.take i).map Gr.l).map (Ev.rowV q.items) ∧ Below wc.heap.size wc wr)) (fun _ iv _ => T.length - (intOf iv).toNat)
          case atStart => exact ⟨0, none, 0, [], Nat.zero_le _, by go_num, rfl, HST.out⟩
          case round =>
            obtain ⟨i, A8, c8, R, hi, rfl, rfl, HJ⟩ := hrel
            clear HST
            by_cases hlt : i < T.length
            · have hii : (i : Int) < (T.length : Int) := by omega
              obtain ⟨g, rfl, hgl, q0, hrok, hrc, hrn⟩ := HTG.out i hlt
              have q0 := cell_later HJ.out.2.2.2 q0
              have HTK : Hid (T.take (i + 1) = T.take i ++ [T[i]]) := List.take_succ_eq_append_getElem hlt
              obtain ⟨r, hr⟩ : ∃ r, T[i] = r := ⟨_, rfl⟩
              rw [hr] at q0 HTK hrok hrc hrn
              have HRO := Lib.hid hrok
              clear hr hrok
              unfold Gr.h at q0
              go_upto_region 16 with fail
              have hzw : g2 < wr.heap.size := Nat.lt_of_lt_of_le HQX.out.1.lt HJ.out.2.2.2.size
              generalize hW5 : World.alloc wr (.cells _ _) = W5
              obtain ⟨ba5, hz5, hB5⟩ := fresh1 hW5
              clear hW5
              have h10 := ba5
              have HB5 := Lib.hid hB5
              have hwz : wr.heap.size < W5.heap.size := by omega
              have HQ5 : Hid (Blk W5 g2 26 q.cells ∧ Below w.heap.size w W5) := ⟨(HQX.out.1.below HJ.out.2.2.2).below hB5, (HQX.out.2.trans (HJ.out.2.2.2.mono HQX.out.2.size)).then hB5⟩
              have HR5 : Hid (RowsOk W5 r.a r.l) := (HRO.out.below HJ.out.2.2.2).below hB5
              have HIT : Hid (ERow eNd W5 q.ia q.items) := HQ.out.i.below HQ5.out.2
              have hil := HQ.out.il
              have HONE : Hid (∀ (w1 w3 : World) (s : Rw) (A3 : Option Addr) (c3 : Nat), Below W5.heap.size W5 w1 → EOwn eVa w1 W5.heap.size s.a s.c s.l → (∀ v ∈ s.l, v.ok) → s.l = Ev.rowV q.items r.l → EOwn eRw w3 wc.heap.size A3 c3 (R ++ [s]) → Below wc.heap.size (w1.alloc (.cells #[s.v] 37)) w3 → (w1.alloc (.cells #[s.v] 37)).grownBy w3 (A8.map (·.block)) → (A3.map (·.block) = A8.map (·.block) ∨ A3.map (·.block) = some (w1.alloc (.cells #[s.v] 37)).heap.size) →
                  (R ++ [s]).length = i + 1 ∧ RLoop wc.heap.size w3 A3 c3 (R ++ [s]) ∧ (R ++ [s]).map Rw.l = ((T.take (i + 1)).map Gr.l).map (Ev.rowV q.items) ∧ Below wc.heap.size wc w3) := fun w1 w3 s A3 c3 h1 h2 h3 h4 h5 h6 h7 h8 => by
                obtain ⟨k1, k2, k3, k4⟩ := HJ.out
                have hbb : Below wr.heap.size wr w1 := HB5.out.trans (h1.mono HB5.out.size)
                refine ⟨by simp [k1], k2.one hbb (h2.mono HB5.out.size) h3 rfl h5 h7 h8, ?_, ((k4.trans (hbb.mono k4.size)).trans (((Below.refl w1.heap.size w1).alloc (Nat.le_refl _) _).mono (Nat.le_trans k4.size hbb.size))).trans h6⟩
                rw [List.map_append, k3, HTK.out, List.map_append, List.map_append, List.map_cons, List.map_nil, h4]
                rfl
              have HOUT : Hid (R.length = i ∧ EOwn eRw W5 wc.heap.size A8 c8 R ∧ wc.heap.size ≤ W5.heap.size) := ⟨HJ.out.1, HJ.out.2.1.own.below HB5.out, Nat.le_trans HJ.out.2.2.2.size HB5.out.size⟩
              clear ba5 hB5 hz5 q0
              generalize hg10 : wr.heap.size = g10 at h10 hzw hwz ⊢
              have HG10 := Lib.hid hg10
              clear hg10
              obtain ⟨-, -, c6, -⟩ := Blk.qr HQ5.out.1
              have HST2 : Hid (EOwn eVa W5 W5.heap.size none 0 [] ∧ [] = (q.items.take 0).map (fun n => Ev.itemV n r.l) ∧ Below W5.heap.size W5 W5) := ⟨EOwn.nil _ _, by simp, Below.refl _ _⟩
              go_wp2_with fail
              clear c6
              go_loopw [11, 59] (fun v11 kv wq => ∃ (k : Nat) (A11 : Option Addr) (c11 : Nat) (vs : List Va), k ≤ q.items.length ∧ kv = .int .i64 (k : Int) ∧ v11 = .slice A11 k c11 ∧ Hid (vs.length = k ∧ EOwn eVa wq W5.heap.size A11 c11 vs ∧ vs = (q.items.take k).map (fun n => Ev.itemV n r.l) ∧ Below W5.heap.size W5 wq)) (fun _ kv _ => q.items.length - (intOf kv).toNat)
              case atStart => exact ⟨0, none, 0, [], Nat.zero_le _, by go_num, rfl, rfl, HST2.out⟩
              case round =>
                obtain ⟨k, A11, c11, vs, hk, rfl, rfl, HK⟩ := hrel
                clear HST2
                by_cases hkl : k < q.items.length
                · have hki : (k : Int) < (q.items.length : Int) := by omega
                  have HTI : Hid (q.items.take (k + 1) = q.items.take k ++ [q.items[k]]) := List.take_succ_eq_append_getElem hkl
                  have HNI : Hid (NodeIn w q.items[k]) := HQ.out.iin _ (List.getElem_mem hkl)
                  obtain ⟨ib, io, hia, -⟩ := HIT.out.at_ hkl
                  have HIW : Hid (ERow eNd wr (some ⟨ib, io, none⟩) q.items) := by show ERow _ _ _ _; rw [← hia]; exact HIT.out.below HK.out.2.2.2
                  rw [hia]
                  clear hia
                  have h10' := h10.below HK.out.2.2.2
                  go_upto_region 20 with (first | (refine wpList_load_nd_at rfl (.tmp 61) rfl HIW.out hkl rfl ?_) | (refine wpList_alloc_nd rfl rfl ?_; intro W6 hb6 hz6 hB6) | (refine wpList_store_nd rfl rfl (.tmp 13) (.tmp 62) rfl wr.heap.size rfl q.items[k] rfl hb6 ?_; intro W7 hb7 hg7))
                  have hwr : W5.heap.size ≤ wr.heap.size := HK.out.2.2.2.size
                  have hB7 : Below wr.heap.size wr W7 := below_of_grown hB6 hg7 (Nat.le_refl _) hB6.size
                  have HB7 := Lib.hid hB7
                  have H10 : Hid (Blk W7 g10 126 [.slice r.a r.l.length r.c]) := h10'.below hB7
                  have HOWN : Hid (vs.length = k ∧ EOwn eVa W7 W5.heap.size A11 c11 vs ∧ Below W5.heap.size W5 W7) := ⟨HK.out.1, HK.out.2.1.below hB7, HK.out.2.2.2.trans (hB7.mono hwr)⟩
                  have HIO : Hid ((Ev.itemV q.items[k] r.l).ok) := Ev.itemV_ok HNI.out HR5.out
                  have HVS : Hid (vs ++ [Ev.itemV q.items[k] r.l] = (q.items.take (k + 1)).map (fun n => Ev.itemV n r.l)) := by show _ = _; rw [HTI.out, List.map_append, ← HK.out.2.2.1]; rfl
                  clear hb6 hz6 hB6 hg7 hB7 h10' HIW HK HTI
                  have hz7 : wr.heap.size < W7.heap.size := hb7.lt
                  generalize q.items[k] = n at hb7 HNI HIO HVS ⊢
                  generalize wr.heap.size = g13 at hb7 hz7 hwr ⊢
                  obtain ⟨c0, -⟩ := Blk.c10 hb7
                  have HWW : Hid (Below w.heap.size w W7) := HQ5.out.2.trans (HOWN.out.2.2.mono HQ5.out.2.size)
                  have HRW : Hid (RowsOk W7 r.a r.l) := HR5.out.below HOWN.out.2.2
                  simp only [Act.put, List.setIfInBounds_toArray, List.set_cons_zero, List.set_cons_succ]
                  go_cut [71] from 63 to 71 (fun v wx => Hid (v = .bool (decide (10 ≤ n.k ∧ n.k ≤ 13)) ∧ W7 = wx))
                  case first =>
                    go_wp2_with fail
                    refine (cmpint_any _ n.k 10).mono ?_
                    rintro e W8 ⟨rfl, rfl⟩
                    have hck : (0 ≤ Ev.cmpI n.k 10) ↔ 10 ≤ n.k := by unfold Ev.cmpI; (repeat' split) <;> omega
                    generalize Ev.cmpI n.k 10 = o at hck ⊢
                    by_cases h0 : 10 ≤ n.k
                    · have ho : 0 ≤ o := hck.2 h0
                      clear hck
                      by_cases h1 : n.k ≤ 13
                      · have HC : Hid (decide (10 ≤ n.k ∧ n.k ≤ 13) = true) := by show _ = _; rw [decide_eq_true_iff]; exact ⟨h0, h1⟩
                        go_wp2_with fail
                        go_meet
                        case rel => exact ⟨by rw [HC.out], rfl⟩
                      · have HC : Hid (decide (10 ≤ n.k ∧ n.k ≤ 13) = false) := by show _ = _; rw [decide_eq_false_iff_not]; omega
                        go_wp2_with fail
                        go_meet
                        case rel => exact ⟨by rw [HC.out, decide_eq_false (show ¬ n.k ≤ 13 by omega)], rfl⟩
                    · have ho : o < 0 := by omega
                      clear hck
                      have HC : Hid (decide (10 ≤ n.k ∧ n.k ≤ 13) = false) := by show _ = _; rw [decide_eq_false_iff_not]; omega
                      go_wp2_with fail
                      go_meet
                      case rel => exact ⟨by rw [HC.out], rfl⟩
                  case rest =>
                    obtain ⟨hv, rfl⟩ := hcut.out
                    subst hv
                    clear hcut c0
                    by_cases hC : 10 ≤ n.k ∧ n.k ≤ 13
                    · have HIV : Hid (Ev.itemV n r.l = Ev.foldV n r.l) := by show _ = _; unfold Ev.itemV; rw [if_pos hC]
                      rw [decide_eq_true hC]
                      clear hC
                      have d0 := H10.out.cell 0
                      simp only [List.getElem?_cons_zero] at d0
                      go_wp2_with (refine wpList_load_nd rfl (.tmp 13) rfl g13 rfl hb7 ?_)
                      refine (fold_any _ n r.a r.c r.l (node_below HNI.out HWW.out) HRW.out hrc).mono ?_
                      rintro e W8 ⟨rfl, hB8⟩
                      rw [← HIV.out]
                      generalize Ev.itemV n r.l = d at HIO HVS ⊢
                      have hoA := (HOWN.out.2.1.below hB8).alloc (.cells #[.int .i64 d.k, .int .i64 d.n, .float .f64 d.f, txt d.s] 64)
                      have hrA := ERow.lit eVa W8 d #[.int .i64 d.k, .int .i64 d.n, .float .f64 d.f, txt d.s] rfl W8.heap.size rfl
                      have HBA : Hid (Below W5.heap.size W5 (W8.alloc (.cells #[.int .i64 d.k, .int .i64 d.n, .float .f64 d.f, txt d.s] 64)) ∧ W5.heap.size ≤ (W8.alloc (.cells #[.int .i64 d.k, .int .i64 d.n, .float .f64 d.f, txt d.s] 64)).heap.size) := by
                        have hx := (HOWN.out.2.2.then (hB8.mono (Nat.le_refl _))).then ((Below.refl W8.heap.size W8).alloc (Nat.le_refl _) (.cells #[.int .i64 d.k, .int .i64 d.n, .float .f64 d.f, txt d.s] 64))
                        exact ⟨hx, hx.size⟩
                      clear hB8 d0 hb7
                      unfold Va.v
                      go_wp2_with (at_builtin; refine wpList_append_elems eVa rfl (.tmp 72) (.tmp 77) rfl k rfl hoA HOWN.out.1.symm 1 rfl hrA rfl (by have := HOWN.out.1; simp; omega) HBA.out.2 ?_; intro A3 c3 w3 ho3 hb3 hg3 ha3)
                      have HR : Hid ((vs ++ [d]).length = k + 1 ∧ EOwn eVa w3 W5.heap.size A3 c3 (vs ++ [d]) ∧ vs ++ [d] = (q.items.take (k + 1)).map (fun n => Ev.itemV n r.l) ∧ Below W5.heap.size W5 w3) := ⟨by simp [HOWN.out.1], ho3, HVS.out, HBA.out.1.trans hb3⟩
                      clear hoA hrA ho3 hb3 hg3 ha3
                      go_roundw
                      case rel => exact ⟨k + 1, A3, c3, _, by omega, by go_num, by rw [HOWN.out.1], HR.out⟩
                      case measure => simp [intOf]; omega
                    · have HIV : Hid (Ev.itemV n r.l = Ev.eval (Ev.firstR r.l).l n) := by show _ = _; unfold Ev.itemV; rw [if_neg hC]
                      rw [decide_eq_false hC]
                      clear hC
                      have d0 := H10.out.cell 0
                      simp only [List.getElem?_cons_zero] at d0
                      go_upto_region 22 with fail
                      refine wp_region_plan (.take 0 (.take 1 (.take 2 (.run 3 [0, 1] (.run 4 [0] (.run 5 [0] (.run 6 [] (.take 7 .fin)))))))) (by kernel_rfl) (by kernel_rfl) (by kernel_rfl) (by kernel_rfl) ?_
                      repeat' (first | (refine hZ _ _ ?_; clear hZ) | (refine hZ _ ?_; clear hZ) | (refine hZ ?_; clear hZ) | rw [again_nil] | rw [walk_fin] | ((first | rw [walk_take] | rw [walk_run] | rw [again_cons]); intro Z hZ; simp only [sel, List.getElem?_toArray, List.getElem?_cons_zero, List.getElem?_cons_succ]; go_wp2_with (refine wpList_load_nd rfl (.tmp 13) rfl g13 rfl hb7 ?_)))
                      refine (show Calls _ _ #[.agg #[r.h]] _ _ from first_any _ r (HRW.out.below (Below.refl _ _).drewR)).mono ?_
                      rintro e W8 ⟨rfl, hB8⟩
                      have hB8' : Below W7.heap.size W7 W8 := (Below.refl _ _).drewR.trans (hB8.mono (Nat.le_refl _))
                      have hb8 := hb7.below hB8'
                      have d8 := cell_later hB8' d0
                      have HB8 := Lib.hid hB8'
                      clear hB8 hB8' d0 hb7
                      go_wp2_with fail
                      repeat' (first | (refine hZ _ _ ?_; clear hZ) | (refine hZ _ ?_; clear hZ) | (refine hZ ?_; clear hZ) | rw [again_nil] | rw [walk_fin] | ((first | rw [walk_take] | rw [walk_run] | rw [again_cons]); intro Z hZ; simp only [sel, List.getElem?_toArray, List.getElem?_cons_zero, List.getElem?_cons_succ]; go_wp2_with (refine wpList_load_nd rfl (.tmp 13) rfl g13 rfl hb8 ?_)))
                      refine (eval_any W8 _ (Ev.firstR r.l).c (Ev.firstR r.l).l (HRW.out.below HB8.out).first.r (HRW.out.below HB8.out).first.ok (HRW.out.below HB8.out).first.len n (node_below (node_below HNI.out HWW.out) HB8.out) W8 (Below.refl _ _)).mono ?_
                      rintro e W9 ⟨rfl, hB9⟩
                      rw [← HIV.out]
                      generalize Ev.itemV n r.l = d at HIO HVS ⊢
                      have hB9' : Below W7.heap.size W7 W9 := HB8.out.then hB9
                      have hb9 := hb8.below hB9
                      have d9 := cell_later hB9 d8
                      have hoA := (HOWN.out.2.1.below hB9').alloc (.cells #[.int .i64 d.k, .int .i64 d.n, .float .f64 d.f, txt d.s] 64)
                      have hrA := ERow.lit eVa W9 d #[.int .i64 d.k, .int .i64 d.n, .float .f64 d.f, txt d.s] rfl W9.heap.size rfl
                      have HBA : Hid (Below W5.heap.size W5 (W9.alloc (.cells #[.int .i64 d.k, .int .i64 d.n, .float .f64 d.f, txt d.s] 64)) ∧ W5.heap.size ≤ (W9.alloc (.cells #[.int .i64 d.k, .int .i64 d.n, .float .f64 d.f, txt d.s] 64)).heap.size) := by
                        have hx := (HOWN.out.2.2.then (hB9'.mono (Nat.le_refl _))).then ((Below.refl W9.heap.size W9).alloc (Nat.le_refl _) (.cells #[.int .i64 d.k, .int .i64 d.n, .float .f64 d.f, txt d.s] 64))
                        exact ⟨hx, hx.size⟩
                      clear hB9 hB9' d8 hb8
                      unfold Va.v
                      go_wp2_with fail
                      repeat' (first | (refine hZ _ _ ?_; clear hZ) | (refine hZ _ ?_; clear hZ) | (refine hZ ?_; clear hZ) | rw [again_nil] | rw [walk_fin] | ((first | rw [walk_take] | rw [walk_run] | rw [again_cons]); intro Z hZ; simp only [sel, List.getElem?_toArray, List.getElem?_cons_zero, List.getElem?_cons_succ]; go_wp2_with (first | (refine wpList_load_nd rfl (.tmp 13) rfl g13 rfl hb9 ?_) | (at_builtin; refine wpList_append_elems eVa rfl (.tmp 79) (.tmp 84) rfl k rfl hoA HOWN.out.1.symm 1 rfl hrA rfl (by have := HOWN.out.1; simp; omega) HBA.out.2 ?_; intro A3 c3 w3 ho3 hb3 hg3 ha3))))
                      have HR : Hid ((vs ++ [d]).length = k + 1 ∧ EOwn eVa w3 W5.heap.size A3 c3 (vs ++ [d]) ∧ vs ++ [d] = (q.items.take (k + 1)).map (fun n => Ev.itemV n r.l) ∧ Below W5.heap.size W5 w3) := ⟨by simp [HOWN.out.1], ho3, HVS.out, HBA.out.1.trans hb3⟩
                      clear hoA hrA ho3 hb3 hg3 ha3
                      go_wp2_with fail
                      go_roundw
                      case rel => exact ⟨k + 1, A3, c3, _, by omega, by go_num, by rw [HOWN.out.1], HR.out⟩
                      case measure => simp [intOf]; omega
                · have hki : ¬ (k : Int) < (q.items.length : Int) := by omega
                  obtain rfl : k = q.items.length := by omega
                  obtain ⟨k1, k2, k3, k4⟩ := HK.out
                  rw [List.take_length] at k3
                  have HVK : Hid ((∀ v ∈ vs, v.ok) ∧ vs = Ev.rowV q.items r.l ∧ Below W5.heap.size W5 wr ∧ EOwn eVa wr W5.heap.size A11 c11 vs) := by
                    refine ⟨fun v hv => ?_, k3, k4, k2⟩
                    rw [k3] at hv
                    obtain ⟨n, hn, rfl⟩ := List.mem_map.1 hv
                    exact Ev.itemV_ok (HQ.out.iin n hn) HR5.out
                  have hoA := (HOUT.out.2.1.below k4).alloc (.cells #[.slice A11 q.items.length c11] 37)
                  have hrA := ERow.lit eRw wr ⟨A11, vs, c11⟩ #[.slice A11 q.items.length c11] (by show _ = [Value.slice A11 vs.length c11]; rw [k1]) wr.heap.size rfl
                  have hzo : wc.heap.size ≤ (wr.alloc (.cells #[.slice A11 q.items.length c11] 37)).heap.size := by
                    have := k4.size
                    have := HOUT.out.2.2
                    simp
                    omega
                  have HKL := Lib.hid k1
                  clear k1 k2 k3 k4 HK
                  go_wp2_with (at_builtin; refine wpList_append_elems eRw rfl (.tmp 87) (.tmp 89) rfl i rfl hoA HOUT.out.1.symm 1 rfl hrA rfl (by have := HOUT.out.1; simp; omega) hzo ?_; intro A3 c3 w3 ho3 hb3 hg3 ha3)
                  have HR := Lib.hid (HONE.out wr w3 ⟨A11, vs, c11⟩ A3 c3 HVK.out.2.2.1 HVK.out.2.2.2 HVK.out.1 HVK.out.2.1 ho3 (by show Below _ (wr.alloc (.cells #[.slice A11 vs.length c11] _)) _; rw [HKL.out]; exact hb3) (by show (wr.alloc (.cells #[.slice A11 vs.length c11] _)).grownBy _ _; rw [HKL.out]; exact hg3) (by show _ ∨ _ = some (wr.alloc (.cells #[.slice A11 vs.length c11] _)).heap.size; rw [HKL.out]; exact ha3))
                  clear hoA hrA ho3 hb3 hg3 ha3
                  go_roundw
                  case rel => exact ⟨i + 1, A3, c3, _, by omega, by go_num, by rw [HOUT.out.1], HR.out⟩
                  case measure => simp [intOf]; omega
            · have hii : ¬ (i : Int) < (T.length : Int) := by omega
              obtain rfl : i = T.length := by omega
              have HF : Hid (RetRows w (fun R => R = D) (.returned (.slice A8 T.length c8)) wr) := by
                obtain ⟨h0, h1, h2, h3⟩ := HJ.out
                rw [← h0]
                have hz := HQX.out.2.size
                refine ⟨A8, c8, R, rfl, ⟨h1.own.mono hz, h1.rows, h1.cap, h1.ok, h1.ne, Nat.le_trans hz h1.size⟩, ?_, HQX.out.2.trans (h3.mono hz)⟩
                rw [HDT.out, h2, List.take_length]
              go_wp2_with fail
              go_ret
              exact HF.out
end Go.Proofs.YtpahkaffknnjhaaGreatDoor
end

section
/-
  The run of the laws' first lines: the query, the plan, the world, the operator, as they lie in memory; begin.
-/
namespace Go.Proofs.YtpahkaffknnjhaaGreatDoor
set_option linter.unusedSimpArgs false
set_option linter.unusedVariables false
open Go.RowKit

namespace R18
def na : Nd := .mk 2 [] Key.nul 0 false 1 none [] 0
def nb : Nd := .mk 1 [] ⟨1, 1, 0, []⟩ 0 false 0 none [] 0
def nn (g : Nat) : Nd := .mk 7 [62] Key.nul 0 false 0 (some ⟨g, 0, none⟩) [na, nb] 2
def px (gn gd : Nat) : Pn.PX := ⟨[0], [0], 1, [nn gn], false, [], [⟨0, some ⟨gd, 0, none⟩, [0], 1, false⟩], [], []⟩
def qp (gn gd gt gb gw gi : Nat) : Qp := ⟨px gn gd, some ⟨gt, 0, none⟩, 1, some ⟨gb, 0, none⟩, 1, some ⟨gw, 0, none⟩, 1, none, [], 0, some ⟨gi, 0, none⟩, [na], 1, none, 0, -1⟩
def pm : Pm := .mk 2 0 0 none [] 0 0 (-1) 0 0 none [] 0
def pmv : List Value := [.int .i64 2, .int .i64 0, .int .i64 0, .slice none 0 0, .int .i64 0, .int .i64 (-1), .int .i64 0, .int .i64 0, .slice none 0 0]
/-- An operator's block: where it goes on, whether it is done. -/
def stc (from_ : Value) (done : Bool) (at_ : Int) : List Value := pmv ++ [.slice none 0 0, .slice none 0 0, .int .i64 0, from_, .slice none 0 0, .bool done, .slice none 0 0, .slice none 0 0, .int .i64 at_]
end R18
theorem pm_v : R18.pm.v = .agg R18.pmv.toArray := rfl
def RetBeg (w : World) (e : Ending) (w' : World) : Prop := ∃ g, e = .returned (.pointer (some ⟨g, 0, none⟩)) ∧ Blk w' g 159 (R18.stc (.slice none 0 0) false 0) ∧ w.heap.size ≤ g ∧ Below w.heap.size w w'
set_option maxRecDepth 100000 in
set_option maxHeartbeats 4000000 in
theorem rbegin_any (w : World) : Calls Tryz.prog 71 #[R18.pm.v] w (RetBeg w) := by
  rw [pm_v]
  show Calls _ _ #[.agg #[.int .i64 2, .int .i64 0, .int .i64 0, .slice none 0 0, .int .i64 0, .int .i64 (-1), .int .i64 0, .int .i64 0, .slice none 0 0]] _ _
  go_enter Tryz.func71, Tryz.ntmps71
  go_upto_region 1 with fail
  generalize hW : World.alloc w _ = W1
  obtain ⟨hb1, hz1, hB1⟩ := fresh1 (a := R18.pmv) hW
  clear hW
  obtain ⟨c0, c1, c2, c3, c4, c5, c6, c7, c8⟩ : W1.cell? ⟨w.heap.size, 0, none⟩ = some (.int .i64 2) ∧ W1.cell? ⟨w.heap.size, 1, none⟩ = some (.int .i64 0) ∧ W1.cell? ⟨w.heap.size, 2, none⟩ = some (.int .i64 0) ∧ W1.cell? ⟨w.heap.size, 3, none⟩ = some (.slice none 0 0) ∧ W1.cell? ⟨w.heap.size, 4, none⟩ = some (.int .i64 0) ∧ W1.cell? ⟨w.heap.size, 5, none⟩ = some (.int .i64 (-1)) ∧ W1.cell? ⟨w.heap.size, 6, none⟩ = some (.int .i64 0) ∧ W1.cell? ⟨w.heap.size, 7, none⟩ = some (.int .i64 0) ∧ W1.cell? ⟨w.heap.size, 8, none⟩ = some (.slice none 0 0) :=
    ⟨hb1.cell 0, hb1.cell 1, hb1.cell 2, hb1.cell 3, hb1.cell 4, hb1.cell 5, hb1.cell 6, hb1.cell 7, hb1.cell 8⟩
  have HB1 := Lib.hid hB1
  have HBK := Lib.hid hb1
  clear hb1 hz1 hB1
  obtain ⟨g1, hg1⟩ : ∃ g, w.heap.size = g := ⟨_, rfl⟩
  have HG1 := Lib.hid hg1
  rw [hg1] at c0 c1 c2 c3 c4 c5 c6 c7 c8 HBK
  rw [hg1]
  clear hg1
  go_upto_region 2 with fail
  generalize hW : World.alloc W1 _ = W2
  obtain ⟨hb2, hz2, hB2⟩ := fresh1 (a := R18.stc (.slice none 0 0) false 0) hW
  have HE : Hid (RetBeg w (.returned (.pointer (some ⟨W1.heap.size, 0, none⟩))) W2) := ⟨_, rfl, hb2, HB1.out.size, HB1.out.then hB2⟩
  have d8 : W2.cell? ⟨g1, 8, none⟩ = some (.slice none 0 0) := (HBK.out.below hB2).cell 8
  clear hW hb2 hz2 hB2 c0 c1 c2 c3 c4 c5 c6 c7 c8 HBK
  generalize W1.heap.size = g2 at HE ⊢
  go_wp2_with fail
  go_loopw [12] (fun iv wr => iv = .int .i64 0 ∧ wr = W2) (fun _ _ => 0)
  case atStart => exact ⟨rfl, rfl⟩
  case round =>
    obtain ⟨rfl, rfl⟩ := hrel
    go_wp2_with fail
    go_ret
    exact HE.out
end Go.Proofs.YtpahkaffknnjhaaGreatDoor
end

section
/-
  The run of the laws' first lines: what its world holds; a column's place.
-/
namespace Go.Proofs.YtpahkaffknnjhaaGreatDoor
set_option linter.unusedSimpArgs false
set_option linter.unusedVariables false
open Go.RowKit

/-- Where all lies that the run of the first lines reads. -/
structure Lv where
  wd : Nat
  n : Nat
  d : Nat
  t : Nat
  b : Nat
  w : Nat
  i : Nat
  m : Nat
  D : Nat
  G : List Gr
  K : List Ks
namespace R18
def v1 : Va := ⟨1, 1, 0, []⟩
def v2 : Va := ⟨1, 2, 0, []⟩
def k1 : List UInt8 := Run.key [0] [v1] 1
def k2 : List UInt8 := Run.key [0] [v2] 2
end R18
def Lv.wdc (x : Lv) : List Value := [.slice (some ⟨x.t, 0, none⟩) 1 1, .slice (some ⟨x.b, 0, none⟩) 1 1, .int .i64 1, .slice (some ⟨x.w, 0, none⟩) 1 1, .slice none 0 0, .bool false, .slice (some ⟨x.i, 0, none⟩) 1 1, .slice none 0 0, .int .i64 (-1), .slice (some ⟨x.D, 0, none⟩) 1 1, .iface 35 (.pointer (some ⟨x.m, 0, none⟩)), .int .i64 0]
structure LvIn (W : World) (x : Lv) : Prop where
  wd : Blk W x.wd 117 x.wdc
  t : Blk W x.t 3 [.int .i64 0]
  b : Blk W x.b 3 [.int .i64 0]
  n : Blk W x.n 66 (R18.na.cells ++ R18.nb.cells)
  w : Blk W x.w 66 (R18.nn x.n).cells
  i : Blk W x.i 66 R18.na.cells
  D : Blk W x.D 46 [.int .i64 0, .slice (some ⟨x.d, 0, none⟩) 1 1, .bool false]
  d : Blk W x.d 3 [.int .i64 0]
  m : MemAt W x.m x.G x.K
  g : x.G.map Run.rowsG = [[[R18.v1], [R18.v2]]]
  k : x.K.map Run.keysG = [[R18.k1, R18.k2]]
theorem LvIn.below {w W : World} {x : Lv} (h : LvIn w x) (hB : Below w.heap.size w W) : LvIn W x :=
  ⟨h.wd.below hB, h.t.below hB, h.b.below hB, h.n.below hB, h.w.below hB, h.i.below hB, h.D.below hB, h.d.below hB, h.m.below hB, h.g, h.k⟩
theorem Lv.nodes {w : World} {x : Lv} (h : LvIn w x) : ERow eNd w (some ⟨x.w, 0, none⟩) [R18.nn x.n] ∧ NodeIn w (R18.nn x.n) := by
  refine ⟨h.w.row eNd [R18.nn x.n] rfl (by simp [maxLen]), ?_⟩
  have ha : NodeIn w R18.na := .mk ERow.nil (by intro m hm; cases hm) Ev.nul_ok (Nat.zero_le _) ⟨by decide, by decide⟩ ⟨by decide, by decide⟩ (Nat.le_refl 0) (Nat.zero_le _)
  have hb : NodeIn w R18.nb := .mk ERow.nil (by intro m hm; cases hm) ⟨by decide, by decide, by decide, by decide, by decide⟩ (Nat.zero_le _) ⟨by decide, by decide⟩ ⟨by decide, by decide⟩ (Nat.le_refl 0) (Nat.zero_le _)
  refine .mk (h.n.row eNd [R18.na, R18.nb] rfl (by simp [maxLen])) ?_ Ev.nul_ok (Nat.zero_le _) ⟨show (-9223372036854775808 : Int) ≤ 7 by decide, show (7 : Int) ≤ 9223372036854775807 by decide⟩ ⟨show (-9223372036854775808 : Int) ≤ 0 by decide, show (0 : Int) ≤ 9223372036854775807 by decide⟩ (Nat.le_refl 2) (by show 2 ≤ maxLen; decide)
  intro m hm
  rcases List.mem_cons.1 hm with rfl | hm
  · exact ha
  · rw [List.mem_singleton.1 hm]; exact hb
set_option maxRecDepth 100000 in
set_option maxHeartbeats 4000000 in
theorem rcol_any (w : World) (x : Lv) (h : LvIn w x) : Calls Tryz.prog 144 #[.pointer (some ⟨x.wd, 0, none⟩), R18.pm.v, .int .i64 0] w fun e w' => e = .returned (.int .i64 0) ∧ Below w.heap.size w w' := by
  rw [pm_v]
  show Calls _ _ #[_, .agg #[.int .i64 2, .int .i64 0, .int .i64 0, .slice none 0 0, .int .i64 0, .int .i64 (-1), .int .i64 0, .int .i64 0, .slice none 0 0], _] _ _
  go_enter Tryz.func144, Tryz.ntmps144
  go_upto_region 1 with fail
  generalize hW : World.alloc w _ = W1
  obtain ⟨hb1, hz1, hB1⟩ := fresh1 (a := R18.pmv) hW
  have h1 := h.below hB1
  have hb1' := hb1.drew
  have h1' := h1.below (Below.refl W1.heap.size W1).drewR
  have HB : Hid (Below w.heap.size w W1.drew) := hB1.then (Below.refl W1.heap.size W1).drewR
  have c1 := h1'.wd.cell 1
  have c9 := h1'.wd.cell 9
  have cb := h1'.b.cell 0
  have cD := h1'.D.cell 1
  have cd := h1'.d.cell 0
  have p1 := hb1'.cell 1
  have p2 := hb1'.cell 2
  simp only [Lv.wdc, R18.pmv, List.getElem?_cons_zero, List.getElem?_cons_succ] at c1 c9 cb cD cd p1 p2
  clear hW hb1 hz1 hB1 h1 hb1' h1'
  generalize w.heap.size = g1 at p1 p2 ⊢
  refine wp_region_plan (.take 0 (.take 1 (.take 2 (.take 3 (.take 4 (.take 5 (.take 6 (.take 7 (.take 8 (.take 9 (.take 10 (.take 11 (.take 12 (.take 13 (.take 14 (.take 15 (.take 16 (.take 17 (.take 18 (.take 19 (.take 20 (.take 21 (.take 22 .fin))))))))))))))))))))))) (by kernel_rfl) (by kernel_rfl) (by kernel_rfl) (by kernel_rfl) ?_
  repeat' (first | (refine hZ _ _ ?_; clear hZ) | (refine hZ _ ?_; clear hZ) | (refine hZ ?_; clear hZ) | rw [again_nil] | rw [walk_fin] | ((first | rw [walk_take] | rw [walk_run] | rw [again_cons]); intro Z hZ; simp only [sel, List.getElem?_toArray, List.getElem?_cons_zero, List.getElem?_cons_succ]; go_wp2_with (fail)))
  go_wp2_with fail
  go_ret
  exact ⟨rfl, HB.out⟩
end Go.Proofs.YtpahkaffknnjhaaGreatDoor
end

section
/-
  The document's Exact at a value and itself.
-/
namespace Go.Proofs.YtpahkaffknnjhaaGreatDoor
set_option linter.unusedSimpArgs false
set_option linter.unusedVariables false
open Go.RowKit

end Go.Proofs.YtpahkaffknnjhaaGreatDoor
end

section
/-
  The contract of plan's gives: does a plan give the order?
-/
namespace Go.Proofs.YtpahkaffknnjhaaGreatDoor
set_option linter.unusedSimpArgs false
set_option linter.unusedVariables false
open Go.RowKit

theorem ints_drop (L : List Int) (x : Int) (i : Nat) (hi : i < L.length) : (L.drop i).contains x = (x == L[i] || (L.drop (i + 1)).contains x) := by
  rw [List.drop_eq_getElem_cons hi, List.contains_cons]
set_option maxRecDepth 20000 in
set_option maxHeartbeats 1000000 in
theorem iindex_any (w : World) (A : Option Addr) (c : Nat) (L : List Int) (hL : ERow eInt w A L) (hl : L.length ≤ 1000000) (x : Int) :
    Calls Tryz.prog 170 #[.slice A L.length c, .int .i64 x] w (RetIs w (L.contains x)) := by
  have HL := Lib.hid hL
  clear hL
  obtain ⟨C, hC⟩ : ∃ C, L.contains x = C := ⟨_, rfl⟩
  have HC := Lib.hid hC
  rw [hC]
  clear hC
  go_enter Tryz.func170, Tryz.ntmps170
  go_wp2_with fail
  go_loopw [8] (fun iv wr => ∃ i : Nat, i ≤ L.length ∧ iv = .int .i64 (i : Int) ∧ Hid ((L.drop i).contains x = C ∧ w = wr)) (fun iv _ => L.length - (intOf iv).toNat)
  case atStart => exact ⟨0, Nat.zero_le _, by go_num, HC.out, rfl⟩
  case round =>
    obtain ⟨i, hi, rfl, HJ⟩ := hrel
    obtain ⟨hd, rfl⟩ := HJ.out
    have HD := Lib.hid hd
    clear HJ hd
    by_cases hlt : i < L.length
    · have hii : (i : Int) < (L.length : Int) := by omega
      obtain ⟨bb, oo, ha, -, hc⟩ := int_at HL.out hlt
      have HX : Hid ((x == L[i] || (L.drop (i + 1)).contains x) = C) := by show _ = _; rw [← ints_drop L x i hlt]; exact HD.out
      rw [ha]
      clear ha
      generalize L[i] = y at hc HX
      cases hxy : x == y with
      | true =>
        have HR : Hid (true = C) := by show _ = _; rw [← HX.out, hxy]; rfl
        go_wp2_with fail
        go_ret
        exact ⟨i, rfl, by rw [← HR.out]; exact decide_eq_true (by omega), rfl⟩
      | false =>
        have HR : Hid ((L.drop (i + 1)).contains x = C) := by show _ = _; rw [← HX.out, hxy]; rfl
        go_wp2_with fail
        go_roundw
        case rel => exact ⟨i + 1, by omega, by go_num, HR.out, trivial⟩
        case measure => simp [intOf]; omega
    · have hii : ¬ (i : Int) < (L.length : Int) := by omega
      have HR : Hid (false = C) := by
        show _ = _
        rw [← HD.out, List.drop_eq_nil_of_le (by omega)]
        rfl
      go_wp2_with fail
      go_ret
      exact ⟨-1, rfl, HR.out, rfl⟩
set_option maxRecDepth 20000 in
theorem icontains_any (w : World) (A : Option Addr) (c : Nat) (L : List Int) (hL : ERow eInt w A L) (hl : L.length ≤ 1000000) (x : Int) :
    Calls Tryz.prog 142 #[.slice A L.length c, .int .i64 x] w fun e w' => e = .returned (.bool (L.contains x)) ∧ w = w' := by
  have HL := Lib.hid hL
  clear hL
  obtain ⟨C, hC⟩ : ∃ C, L.contains x = C := ⟨_, rfl⟩
  have HC := Lib.hid (iindex_any w A c L HL.out hl x)
  rw [hC] at HC ⊢
  clear hC
  go_enter Tryz.func142, Tryz.ntmps142
  go_wp2_with fail
  refine HC.out.mono ?_
  rintro e W2 ⟨k, rfl, hk, rfl⟩
  have HK := Lib.hid hk
  clear hk
  go_wp2_with fail
  go_ret
  exact ⟨by rw [← HK.out]; rfl, rfl⟩
/-- A plan of which gives can be asked. -/
inductive GvOk (x : Pn.PX) : Pm → Prop
  | sort {p : Pm} : p.op = 5 → GvOk x p
  | kid {p k : Pm} {l : List Pm} : p.op = 3 ∨ p.op = 4 → p.kids = k :: l → GvOk x k → GvOk x p
  | seq {p : Pm} : p.op = 1 → GvOk x p
  | range {p : Pm} : p.op ≠ 5 → p.op ≠ 3 → p.op ≠ 4 → p.op ≠ 1 → 0 ≤ p.ix → p.ix < (x.defs.length : Int) → 0 ≤ p.fr → p.fr < (x.T.length : Int) → p.eq.length ≤ (x.defs.getD p.ix.toNat ⟨0, none, [], 0, false⟩).cols.length → GvOk x p
namespace Pn
theorem gives_sort {x : PX} {p : Pl} (h : p.op = 5) : gives x p = true := by
  cases p with
  | mk op fr ix eq low high cost rows kids =>
    simp only [Pl.op] at h
    unfold gives
    rw [if_pos h]
theorem gives_kid {x : PX} {p k : Pl} {l : List Pl} (h : p.op = 3 ∨ p.op = 4) (hk : p.kids = k :: l) : gives x p = gives x k := by
  cases p with
  | mk op fr ix eq low high cost rows kids =>
    simp only [Pl.op, Pl.kids] at h hk
    subst hk
    conv => lhs; unfold gives
    rw [if_neg (by omega), if_pos h]
theorem gives_seq {x : PX} {p : Pl} (h : p.op = 1) : gives x p = x.ord.isEmpty := by
  cases p with
  | mk op fr ix eq low high cost rows kids =>
    simp only [Pl.op] at h
    unfold gives
    rw [if_neg (by omega), if_neg (by omega), if_pos h]
theorem gives_range {x : PX} {p : Pl} (h5 : p.op ≠ 5) (h3 : p.op ≠ 3) (h4 : p.op ≠ 4) (h1 : p.op ≠ 1) : gives x p = givF x p.fr (x.defs.getD p.ix.toNat ⟨0, none, [], 0, false⟩).cols p.eq.length x.ord p.eq.length := by
  cases p with
  | mk op fr ix eq low high cost rows kids =>
    simp only [Pl.op] at h5 h3 h4 h1
    unfold gives
    rw [if_neg h5, if_neg (by omega), if_neg h1]
    rfl
theorem givF_drop (x : PX) (f : Int) (cols : List Int) (k : Nat) (L : List So) (i : Nat) (h : i < L.length) (next : Nat) : givF x f cols k (L.drop i) next =
    if L[i].desc = true ∨ ofT x L[i].at_ ≠ f then false
    else if (cols.take k).contains (L[i].at_ - b x f.toNat) then givF x f cols k (L.drop (i + 1)) next
    else if next < cols.length ∧ cols.getD next 0 = L[i].at_ - b x f.toNat then givF x f cols k (L.drop (i + 1)) (next + 1) else false := by
  rw [List.drop_eq_getElem_cons h]; rfl
theorem ofF_hit {x : PX} {at_ : Int} : ∀ (k i : Nat) (f : Nat), ofF x at_ i k = (f : Int) → b x f ≤ at_ ∧ at_ < endN x f
  | 0, i, f, h => by unfold ofF at h; omega
  | k + 1, i, f, h => by
    rw [ofF_drop] at h
    split at h
    · next hc => have : i = f := by omega
                 rw [← this]; exact hc
    · exact ofF_hit k (i + 1) f h
theorem ofT_hit {x : PX} {at_ : Int} {f : Nat} (h : ofT x at_ = (f : Int)) : b x f ≤ at_ ∧ at_ < endN x f := ofF_hit _ _ _ h
end Pn
end Go.Proofs.YtpahkaffknnjhaaGreatDoor
end

section
/-
  The contract of a planner's access.
-/
namespace Go.Proofs.YtpahkaffknnjhaaGreatDoor
set_option linter.unusedSimpArgs false
set_option linter.unusedVariables false
open Go.RowKit

theorem Blk.n9 {w : World} {g : Nat} {t : TypeId} {a b c d e f i j k : Value} (h : Blk w g t [a, b, c, d, e, f, i, j, k]) :
    w.cell? ⟨g, 0, none⟩ = some a ∧ w.cell? ⟨g, 1, none⟩ = some b ∧ w.cell? ⟨g, 2, none⟩ = some c ∧ w.cell? ⟨g, 3, none⟩ = some d ∧ w.cell? ⟨g, 4, none⟩ = some e ∧ w.cell? ⟨g, 5, none⟩ = some f ∧ w.cell? ⟨g, 6, none⟩ = some i ∧ w.cell? ⟨g, 7, none⟩ = some j ∧ w.cell? ⟨g, 8, none⟩ = some k :=
  ⟨h.cell 0, h.cell 1, h.cell 2, h.cell 3, h.cell 4, h.cell 5, h.cell 6, h.cell 7, h.cell 8⟩
namespace Pn
end Pn
namespace Pn
end Pn
end Go.Proofs.YtpahkaffknnjhaaGreatDoor
end

section
/-
  The contracts of add: another way to join.
-/
namespace Go.Proofs.YtpahkaffknnjhaaGreatDoor
set_option linter.unusedSimpArgs false
set_option linter.unusedVariables false
open Go.RowKit Go.Maps

section
variable {w : World} {ops : Array Oper} {rest : List Oper} {o : Oper} {a : Act} {Q : Exit → Act → World → Prop}
end
end Go.Proofs.YtpahkaffknnjhaaGreatDoor
end

section
/-
  The contract of a planner's join.
-/
namespace Go.Proofs.YtpahkaffknnjhaaGreatDoor
set_option linter.unusedSimpArgs false
set_option linter.unusedVariables false
open Go.RowKit

namespace Pn
end Pn
end Go.Proofs.YtpahkaffknnjhaaGreatDoor
end

section
/-
  The contracts of commute, associate and explore.
-/
namespace Go.Proofs.YtpahkaffknnjhaaGreatDoor
set_option linter.unusedSimpArgs false
set_option linter.unusedVariables false
open Go.RowKit Go.Maps

section
variable {w : World} {ops : Array Oper} {rest : List Oper} {o : Oper} {a : Act} {Q : Exit → Act → World → Prop}
end
end Go.Proofs.YtpahkaffknnjhaaGreatDoor
end

section
/-
  The contracts of a planner's gives and optimize.
-/
namespace Go.Proofs.YtpahkaffknnjhaaGreatDoor
set_option linter.unusedSimpArgs false
set_option linter.unusedVariables false
open Go.RowKit Go.Maps

section
variable {w w' : World} {B gm N : Nat} {J : Nat → List (Nat × Nat)} {M : Nat → Pn.Bo} {all s g0 : Nat} {G : Nat → Nat} {ja : Option Addr} {jc : Nat}
end
namespace Pn
end Pn
end Go.Proofs.YtpahkaffknnjhaaGreatDoor
end

section
/-
  What is known of tables; a planner's world that grows.
-/
namespace Go.Proofs.YtpahkaffknnjhaaGreatDoor
set_option linter.unusedSimpArgs false
set_option linter.unusedVariables false
open Go.RowKit

/-- What is known of a table. -/
structure Stt where
  rows : Int
  a : Option Addr
  cols : List Cs
  c : Nat
def Stt.cells (x : Stt) : List Value := [.int .i64 x.rows, .slice x.a x.cols.length x.c]
def Stt.v (x : Stt) : Value := .agg x.cells.toArray
def Stt.nul : Stt := ⟨0, none, [], 0⟩
instance : Inhabited Stt := ⟨Stt.nul⟩
section
variable {w : World} {ops : Array Oper} {rest : List Oper} {o : Oper} {a : Act} {Q : Exit → Act → World → Prop}
end
namespace Pn
end Pn
section
variable {w wr W : World} {p : Qp} {da : Option Addr} {dn dc g3 g6 g8 : Nat} {na : Option Addr} {need : List Nat} {nc : Nat} {ra : Option Addr} {rows : List Int} {rc : Nat} {ca : Option Addr} {cols : List Cs} {cc : Nat}
end
end Go.Proofs.YtpahkaffknnjhaaGreatDoor
end

section
/-
  The least number of which something holds: for loops whose end no slot tells.
-/
namespace Go.Proofs.YtpahkaffknnjhaaGreatDoor
set_option linter.unusedSimpArgs false
set_option linter.unusedVariables false
namespace Pn
end Pn
end Go.Proofs.YtpahkaffknnjhaaGreatDoor
end

section
/-
  The contract of explore.
-/
namespace Go.Proofs.YtpahkaffknnjhaaGreatDoor
set_option linter.unusedSimpArgs false
set_option linter.unusedVariables false
open Go.RowKit Go.Maps

namespace Pn
end Pn
end Go.Proofs.YtpahkaffknnjhaaGreatDoor
end

section
/-
  The ways to join a group of at most four tables.
-/
namespace Go.Proofs.YtpahkaffknnjhaaGreatDoor.Pn
set_option linter.unusedSimpArgs false
set_option linter.unusedVariables false
end Go.Proofs.YtpahkaffknnjhaaGreatDoor.Pn
end

section
/-
  The groups' plans ahead of the first optimize; what optimize leaves.
-/
namespace Go.Proofs.YtpahkaffknnjhaaGreatDoor
set_option linter.unusedSimpArgs false
set_option linter.unusedVariables false
open Go.RowKit

namespace Pn
end Pn
end Go.Proofs.YtpahkaffknnjhaaGreatDoor
end

section
/-
  What is left of a plan that is copied into the answer's cell.
-/
namespace Go.Proofs.YtpahkaffknnjhaaGreatDoor
set_option linter.unusedSimpArgs false
set_option linter.unusedVariables false
open Go.RowKit

/-- A plan all parts of which can be read. -/
inductive PmRd (w : World) : Pm → Prop
  | mk {p : Pm} : ERow eInt w p.ea p.eq → ERow ePm w p.ka p.kids → (∀ k ∈ p.kids, PmRd w k) → p.eq.length ≤ 1000 → p.kids.length ≤ 1000 → PmRd w p
theorem PmRd.later {w W : World} {p : Pm} (h : PmRd w p) (hB : Below w.heap.size w W) : PmRd W p := by
  induction h with
  | mk h1 h2 h3 h4 h5 ih => exact .mk (h1.below hB) (h2.below hB) ih h4 h5
theorem PmRd.nil {w : World} : PmRd w Pm.nil := .mk ERow.nil ERow.nil (by intro k hk; cases hk) (Nat.zero_le _) (Nat.zero_le _)
theorem PmRd.eqr {w : World} {p : Pm} (h : PmRd w p) : ERow eInt w p.ea p.eq := by cases h with | mk h1 => exact h1
theorem PmRd.kidr {w : World} {p : Pm} (h : PmRd w p) : ERow ePm w p.ka p.kids := by cases h with | mk h1 h2 => exact h2
theorem PmRd.kid {w : World} {p : Pm} (h : PmRd w p) : ∀ k ∈ p.kids, PmRd w k := by cases h with | mk h1 h2 h3 => exact h3
theorem PmRd.eql {w : World} {p : Pm} (h : PmRd w p) : p.eq.length ≤ 1000 := by cases h with | mk h1 h2 h3 h4 => exact h4
theorem PmRd.kidl {w : World} {p : Pm} (h : PmRd w p) : p.kids.length ≤ 1000 := by cases h with | mk h1 h2 h3 h4 h5 => exact h5
end Go.Proofs.YtpahkaffknnjhaaGreatDoor
end

section
/-
  More indexes, no greater cost; turned round, the same; plain.
-/
namespace Go.Proofs.YtpahkaffknnjhaaGreatDoor
set_option linter.unusedSimpArgs false
set_option linter.unusedVariables false
namespace Pn
/-- The same query with other indexes. -/
def wd (x : PX) (D : List Df) : PX := { x with defs := D }
/-! ### nothing but the plans hangs on the indexes -/
section
variable (x : PX) (D : List Df)
theorem ofF_wd (at_ : Int) : ∀ k i, ofF (wd x D) at_ i k = ofF x at_ i k
  | 0, _ => rfl
  | k + 1, i => by
    show (if _ then _ else ofF (wd x D) at_ (i + 1) k) = (if _ then _ else ofF x at_ (i + 1) k)
    rw [ofF_wd at_ k (i + 1)]
    rfl
theorem ofT_wd (at_ : Int) : ofT (wd x D) at_ = ofT x at_ := ofF_wd x D at_ _ _
theorem asksK_wd (k at_ : Int) (l : List (Nat × Bool)) : asksK (wd x D) k at_ l = asksK x k at_ l := by
  unfold asksK
  rw [ofT_wd]
mutual
theorem asks_wd : ∀ n : Nd, asks (wd x D) n = asks x n
  | .mk k _ _ at_ _ _ _ args _ => by
    show asksK (wd x D) k at_ (asksL (wd x D) args) = asksK x k at_ (asksL x args)
    rw [asksK_wd, asksL_wd args]
theorem asksL_wd : ∀ l : List Nd, asksL (wd x D) l = asksL x l
  | [] => rfl
  | n :: l => by
    show asks (wd x D) n :: asksL (wd x D) l = asks x n :: asksL x l
    rw [asks_wd n, asksL_wd l]
end
theorem agHit_wd (y z : Nd) (op : List UInt8) (at_ : Int) (given : Nat) (ops : List (List UInt8)) : agHit (wd x D) y z op at_ given ops = agHit x y z op at_ given ops := by
  unfold agHit
  rw [asks_wd]
theorem agst_wd (n : Nd) (at_ : Int) (given : Nat) (ops : List (List UInt8)) : agst (wd x D) n at_ given ops = agst x n at_ given ops := by
  unfold agst
  simp only [agHit_wd]
end

/-! ### the least of some -/
/-! ### the ways to read a table -/
/-! ### joins -/
/-! ### a group -/
/-! ### all groups -/
/-! ### is an order asked? -/
/-! ### what a plan costs and gives -/
end Pn
end Go.Proofs.YtpahkaffknnjhaaGreatDoor
end

section
/-
  The contract of plan.Choose.
-/
namespace Go.Proofs.YtpahkaffknnjhaaGreatDoor
set_option linter.unusedSimpArgs false
set_option linter.unusedVariables false
open Go.RowKit

namespace Pn
/-- Is there a plan? -/
def chOk (x : PX) (n : Nat) : Bool := may x && n == x.T.length && decide (x.defs.length ≤ 64) && x.wh.all (fun y => !(asks x y).2) && (!orders x || (sorts x).2)
end Pn
theorem all8 {n : Nat} (h1 : 1 ≤ n) (h4 : n ≤ 4) : ((2 : Int) ^ n % 256 - 1) % 256 = ((2 ^ n - 1 : Nat) : Int) := by
  have h : n = 1 ∨ n = 2 ∨ n = 3 ∨ n = 4 := by omega
  rcases h with rfl | rfl | rfl | rfl <;> rfl
end Go.Proofs.YtpahkaffknnjhaaGreatDoor
end

section
/-
  What comes into the planner's laws; the contracts of the laws' size and small.
-/
namespace Go.Proofs.YtpahkaffknnjhaaGreatDoor
set_option linter.unusedSimpArgs false
set_option linter.unusedVariables false
open Go.RowKit Go.Deep Go.WideShapes Go.ChangeShapes

instance : Inhabited Cs := ⟨Cs.nul⟩
/-- A query as it comes in: of any size. -/
structure QpRaw (w : World) (p : Qp) : Prop where
  t : ERow eInt w p.ta p.x.T
  tin : ∀ n ∈ p.x.T, Ev.inB n
  tl : p.x.T.length ≤ p.tc
  tm : p.tc ≤ maxLen
  b : ERow eInt w p.ba p.x.B
  bin : ∀ n ∈ p.x.B, Ev.inB n
  bl : p.x.B.length ≤ p.bc
  bm : p.bc ≤ maxLen
  win : Ev.inB p.x.W
  wn : ERow eNd w p.wa p.x.wh
  nin : ∀ n ∈ p.x.wh, NodeIn w n
  wl : p.x.wh.length ≤ p.wc
  wm : p.wc ≤ maxLen
  o : ERow eSo w p.oa p.x.ord
  oin : ∀ s ∈ p.x.ord, Ev.inB s.at_
  ol : p.x.ord.length ≤ p.oc
  om : p.oc ≤ maxLen
theorem QpRaw.below {w W : World} {p : Qp} (h : QpRaw w p) (hB : Below w.heap.size w W) : QpRaw W p :=
  ⟨h.t.below hB, h.tin, h.tl, h.tm, h.b.below hB, h.bin, h.bl, h.bm, h.win, h.wn.below hB, fun n hn => nd_below15 (h.nin n hn) hB, h.wl, h.wm, h.o.below hB, h.oin, h.ol, h.om⟩
def DfRaw (w : World) (d : Df) : Prop := ERow eInt w d.a d.cols ∧ (∀ c ∈ d.cols, Ev.inB c) ∧ d.cols.length ≤ d.c ∧ d.c ≤ maxLen
theorem DfRaw.below {w W : World} {d : Df} (h : DfRaw w d) (hB : Below w.heap.size w W) : DfRaw W d := ⟨h.1.below hB, h.2⟩
section
variable {H : Type} {enc : TypeId × Value → H} {w : World} {base : Nat} {spare : Nat → Bool} {held : Bool} {fuel : Nat} {cs : List Value} {x : DataW H × List MemPlace}
set_option maxRecDepth 20000 in
theorem open_df (h : DataW.trod enc Tryz.prog w base spare held fuel 46 cs = some x) (hlen : cs.length = 3) : ∃ d : Df, cs = eDf.code d ∧ DfRaw w d := by
  obtain ⟨xs, k, hk, rfl, _, hxl, hfs⟩ := DataW.trod_struct Tryz.underlying46 h
  match xs, hxl, cs, hlen with
  | [y0, y1, y2], _, [v0, v1, v2], _ =>
    have g0 := hfs 0 _ rfl
    have g1 := hfs 1 _ rfl
    have g2 := hfs 2 _ rfl
    have q0 : Tryz.prog.cellsOf 3 = 1 := by kernel_rfl
    have q1 : Tryz.prog.cellsOf 22 = 1 := by kernel_rfl
    have q2 : Tryz.prog.cellsOf 4 = 1 := by kernel_rfl
    simp [q0, q1, q2] at g0 g1 g2
    obtain ⟨n0, e0, _⟩ := open_i64 Tryz.underlying3 g0
    obtain ⟨A, L, c, e1, r1, i1, l1, m1⟩ := open_intlist g1
    obtain ⟨b, e2, _⟩ := DataW.trod_bool Tryz.underlying4 g2
    have e0' : v0 = .int .i64 n0 := by simpa using e0
    have e1' : v1 = .slice A L.length c := by simpa using e1
    have e2' : v2 = .bool b := by simpa using e2
    subst e0' e1' e2'
    exact ⟨⟨n0, A, L, c, b⟩, rfl, r1, i1, l1, m1⟩
end
/-! ### size and small -/
end Go.Proofs.YtpahkaffknnjhaaGreatDoor
end

section
/-
  The contract of the planner's laws' lives.
-/
namespace Go.Proofs.YtpahkaffknnjhaaGreatDoor
set_option linter.unusedSimpArgs false
set_option linter.unusedVariables false
open Go.RowKit

def Qp.nul : Qp := ⟨⟨[], [], 0, [], false, [], [], [], []⟩, none, 0, none, 0, none, 0, none, [], 0, none, [], 0, none, 0, 0⟩
theorem qp_zero (W : World) : (zeroValue 26).run Tryz.prog W = .ok Qp.nul.v W := (zero_of_info (P := Tryz.prog) (t := 26) (v := Qp.nul.v) (n := 9) (by kernel_rfl)).1 W
section
variable {w : World} {ops : Array Oper} {rest : List Oper} {o : Oper} {a : Act} {Q : Exit → Act → World → Prop}
theorem wpList_alloc_qp (hgd : o.guard = none) (hop : o.op = .alloc 26)
    (h : ∀ W, Blk W w.heap.size 26 Qp.nul.cells → w.heap.size + 1 ≤ W.heap.size → Below w.heap.size w W → wpList Tryz.prog ops Q rest (a.put o.dst (.pointer (some ⟨w.heap.size, 0, none⟩))) W) : wpList Tryz.prog ops Q (o :: rest) a w :=
  wpList_alloc_z hgd 26 hop (qp_zero _) fun W hW => by
    obtain ⟨h1, h2, h3⟩ := fresh1 (a := Qp.nul.cells) hW
    exact h W h1 h2 h3
theorem wpList_store_qp (hgd : o.guard = none) (hod : o.dst = none) (x y : Operand) (hop : o.op = .store 26 x y) (g : Nat) (hx : a.eval x = .pointer (some ⟨g, 0, none⟩)) (b : Qp) (hy : a.eval y = b.v) {T0 : TypeId} {old : Qp} (hb : Blk w g T0 old.cells)
    (h : ∀ W, Blk W g T0 b.cells → w.grownBy W (some g) → wpList Tryz.prog ops Q rest a W) : wpList Tryz.prog ops Q (o :: rest) a w :=
  wpList_store_blk hgd hod 26 x y hop g hx b.cells hy hb rfl qp_info (by
    intro u hu
    simp [Qp.cells] at hu
    rcases hu with rfl | rfl | rfl | rfl | rfl | rfl | rfl | rfl | rfl <;> rfl) h
end
namespace L17
def na : Nd := .mk 2 [] Key.nul 0 false 1 none [] 0
def nb : Nd := .mk 1 [] ⟨1, 5, 0, []⟩ 0 false 0 none [] 0
def nn (g : Nat) : Nd := .mk 7 [61] Key.nul 0 false 0 (some ⟨g, 0, none⟩) [na, nb] 2
def ca : Cs := ⟨500, 0, none, [], 0⟩
def px (gn gd : Nat) : Pn.PX := ⟨[0], [0], 2, [nn gn], false, [], [⟨0, some ⟨gd, 0, none⟩, [0], 1, false⟩], [1000, 1000], [ca, Cs.nul]⟩
def qp (x : Pn.PX) (gt gb gw : Nat) : Qp := ⟨x, some ⟨gt, 0, none⟩, 1, some ⟨gb, 0, none⟩, 1, some ⟨gw, 0, none⟩, 1, none, [], 0, none, [], 0, none, 0, -1⟩
def st (g : Nat) : Stt := ⟨1000, some ⟨g, 0, none⟩, [ca, Cs.nul], 2⟩
theorem ok (gn gd : Nat) : Pn.chOk (px gn gd) 1 = true := by kernel_rfl
theorem op (gn gd : Nat) : (Pn.choose (px gn gd)).op = 2 := by kernel_rfl
theorem cost (gn gd : Nat) : (Pn.choose (px gn gd)).cost = 52 := by kernel_rfl
theorem rows (gn gd : Nat) : (Pn.choose (px gn gd)).rows = 2 := by kernel_rfl
theorem eq (gn gd : Nat) : (Pn.choose (px gn gd)).eq.length = 1 := by kernel_rfl
end L17
namespace Pm
theorem e_eql (p : Pm) : p.e.eq = p.eq := by cases p; rfl
end Pm
end Go.Proofs.YtpahkaffknnjhaaGreatDoor
end

section
/-
  The contracts of both Value, and of Same at a node and itself.
-/
namespace Go.Proofs.YtpahkaffknnjhaaGreatDoor
set_option linter.unusedSimpArgs false
set_option linter.unusedVariables false
open Go.RowKit

namespace Pn
/-- Is a node the column at a place? -/
def isCol (n : Nd) (at_ : Int) : Bool := n.k == 2 && n.at_ == at_
/-- What a part of Where holds a column against. -/
def valN (n : Nd) (at_ : Int) : Nd := match n.args with
  | [y, z] => if isCol y at_ = true ∧ isCol z at_ = false then z else y
  | _ => Nd.nil
end Pn
theorem NodeIn.kids {w : World} {n : Nd} (h : NodeIn w n) : ∀ m ∈ n.args, NodeIn w m := by cases h with | mk h1 h2 => exact h2
theorem NodeIn.row {w : World} {n : Nd} (h : NodeIn w n) : ERow eNd w n.a n.args := by cases h with | mk h1 => exact h1
theorem NodeIn.nil (w : World) : NodeIn w Nd.nil := NodeIn.mk ERow.nil (by intro m hm; cases hm) Ev.nul_ok (Nat.zero_le _) (show Ev.inB 0 from ⟨by decide, by decide⟩) (show Ev.inB 0 from ⟨by decide, by decide⟩) (Nat.le_refl _) (Nat.zero_le _)
theorem ret_nd17 {fn : Func} {R : Ending → World → Prop} {a : Act} {w : World} {p : Tmp} {g : Nat} {T0 : TypeId} {b : Nd} (hb : Blk w g T0 b.cells) (h : fn.results = #[.cell p 66]) (hd : a.defers = [])
    (hp : a.tmps.getD p undef = .pointer (some ⟨g, 0, none⟩)) (hR : R (.returned b.v) w) : bodyPost Tryz.prog fn R .ret a w :=
  ret_mem1 h hd hp (run_loadVar_mid w g 0 66 b.cells _ (hb.range 0 b.cells fun j _ => by rw [Nat.zero_add]) Tryz.underlying66 rfl nd_info) hR
/-- The cells of a node in a row. -/
theorem nd_cells {w : World} {b o : Nat} {L : List Nd} (h : ERow eNd w (some ⟨b, o, none⟩) L) {j : Nat} (hj : j < L.length) (n : Nd) (hn : L[j] = n) :
    w.cell? ⟨b, o + j * 10, none⟩ = some (.int .i64 n.k) ∧ w.cell? ⟨b, o + j * 10 + 1, none⟩ = some (txt n.op) ∧ w.cell? ⟨b, o + j * 10 + 2, none⟩ = some (.int .i64 n.lit.k) ∧ w.cell? ⟨b, o + j * 10 + 3, none⟩ = some (.int .i64 n.lit.n) ∧ w.cell? ⟨b, o + j * 10 + 4, none⟩ = some (.float .f64 n.lit.f) ∧
    w.cell? ⟨b, o + j * 10 + 5, none⟩ = some (txt n.lit.s) ∧ w.cell? ⟨b, o + j * 10 + 6, none⟩ = some (.int .i64 n.at_) ∧ w.cell? ⟨b, o + j * 10 + 7, none⟩ = some (.bool n.no) ∧ w.cell? ⟨b, o + j * 10 + 8, none⟩ = some (.int .i64 n.ty) ∧ w.cell? ⟨b, o + j * 10 + 9, none⟩ = some (.slice n.a n.args.length n.c) := by
  subst hn
  obtain ⟨b', o', e, -, hc⟩ := h.at_ hj
  cases e
  exact ⟨hc 0 _ rfl, hc 1 _ rfl, hc 2 _ rfl, hc 3 _ rfl, hc 4 _ rfl, hc 5 _ rfl, hc 6 _ rfl, hc 7 _ rfl, hc 8 _ rfl, hc 9 _ rfl⟩
def RetNd (w : World) (n : Nd) (e : Ending) (w' : World) : Prop := e = .returned n.v ∧ Below w.heap.size w w'
set_option maxRecDepth 20000 in
set_option maxHeartbeats 4000000 in
theorem pvalue_any (w : World) (n : Nd) (hn : NodeIn w n) (at_ : Int) : Calls Tryz.prog 143 #[n.v, .int .i64 at_] w (RetNd w (Pn.valN n at_)) := by
  have HN := Lib.hid hn
  have hcm : n.args.length ≤ 9223372036854775807 := by cases hn with | mk _ _ _ _ _ _ h1 h2 => unfold maxLen at h2; omega
  clear hn
  go_enter Tryz.func143, Tryz.ntmps143
  go_upto_region 1 with (first | (refine wpList_box_nd rfl (.tmp 0) rfl n rfl ?_; intro W1 hb1 hz1 hB1) | (refine wpList_alloc_nd rfl rfl ?_; intro W2 hb2 hz2 hB2))
  have HB1 := Lib.hid hB1
  have h12 := hb1.below hB2
  obtain ⟨-, -, -, -, -, -, -, -, -, c9, -⟩ := Blk.c10 h12
  have hg12 : w.heap.size < W1.heap.size := by omega
  clear hb1 hB1 h12
  obtain ⟨g2, hg2⟩ : ∃ g, w.heap.size = g := ⟨_, rfl⟩
  obtain ⟨g4, hg4⟩ : ∃ g, W1.heap.size = g := ⟨_, rfl⟩
  rw [hg2] at c9
  rw [hg4] at hb2
  rw [hg2, hg4]
  by_cases hlen : n.args.length = 2
  · have hli : (n.args.length : Int) = 2 := by omega
    obtain ⟨y, z, hyz⟩ : ∃ y z, n.args = [y, z] := by
      cases h : n.args with
      | nil => rw [h] at hlen; cases hlen
      | cons y l => cases l with
        | nil => rw [h] at hlen; cases hlen
        | cons z l => cases l with
          | nil => exact ⟨y, z, rfl⟩
          | cons x l => rw [h] at hlen; simp at hlen
    have HRW : Hid (ERow eNd W2 n.a [y, z]) := by show ERow _ _ _ _; rw [← hyz]; exact HN.out.row.below (HB1.out.then hB2)
    have HY : Hid (Pn.valN n at_ = if Pn.isCol y at_ = true ∧ Pn.isCol z at_ = false then z else y) := by show _ = _; unfold Pn.valN; rw [hyz]
    obtain ⟨bb, oo, ha, -, -⟩ := HRW.out.at_ (j := 0) (by simp)
    have HR2 : Hid (ERow eNd W2 (some ⟨bb, oo, none⟩) [y, z]) := by show ERow _ _ _ _; rw [← ha]; exact HRW.out
    rw [ha] at c9
    obtain ⟨y0, -, -, -, -, -, y6, -⟩ := nd_cells HR2.out (j := 0) (by simp) y rfl
    obtain ⟨z0, -, -, -, -, -, z6, -⟩ := nd_cells HR2.out (j := 1) (by simp) z rfl
    rw [Nat.zero_mul, Nat.add_zero] at y0 y6
    rw [Nat.one_mul] at z0 z6
    rw [hlen] at c9
    clear hlen hli hcm HRW ha hyz
    have hl1 : 1 < [y, z].length := by simp
    have hl0 : 0 < [y, z].length := by simp
    obtain ⟨b1, k1⟩ : ∃ b, (y.k == 2) = b := ⟨_, rfl⟩
    obtain ⟨b2, k2⟩ : ∃ b, (y.at_ == at_) = b := ⟨_, rfl⟩
    obtain ⟨b3, k3⟩ : ∃ b, (z.k == 2) = b := ⟨_, rfl⟩
    obtain ⟨b4, k4⟩ : ∃ b, (z.at_ == at_) = b := ⟨_, rfl⟩
    cases b1 with
    | false =>
      have HNV : Hid (Pn.valN n at_ = y) := by show _ = _; rw [HY.out]; simp [Pn.isCol, k1]
      go_upto_region 5 with fail
      go_wp2_with (first | (refine wpList_load_nd_is (j := 0) rfl (.tmp 49) rfl HR2.out hl0 y rfl rfl ?_) | (refine wpList_store_nd rfl rfl (.tmp 4) (.tmp 50) rfl g4 rfl y rfl hb2 ?_; intro W3 hb3 hg3))
      refine ret_nd17 hb3 rfl rfl rfl ⟨?_, below_of_grown (HB1.out.then hB2) hg3 (by have := HB1.out.size; omega) (by have := HB1.out.size; have := hB2.size; omega)⟩
      rw [HNV.out]
    | true =>
      cases b2 with
      | false =>
        have HNV : Hid (Pn.valN n at_ = y) := by show _ = _; rw [HY.out]; simp [Pn.isCol, k1, k2]
        go_upto_region 5 with fail
        go_wp2_with (first | (refine wpList_load_nd_is (j := 0) rfl (.tmp 49) rfl HR2.out hl0 y rfl rfl ?_) | (refine wpList_store_nd rfl rfl (.tmp 4) (.tmp 50) rfl g4 rfl y rfl hb2 ?_; intro W3 hb3 hg3))
        refine ret_nd17 hb3 rfl rfl rfl ⟨?_, below_of_grown (HB1.out.then hB2) hg3 (by have := HB1.out.size; omega) (by have := HB1.out.size; have := hB2.size; omega)⟩
        rw [HNV.out]
      | true =>
        cases b3 with
        | false =>
          have HNV : Hid (Pn.valN n at_ = z) := by show _ = _; rw [HY.out]; simp [Pn.isCol, k1, k2, k3]
          go_upto_region 4 with fail
          go_wp2_with (first | (refine wpList_load_nd_is (j := 1) rfl (.tmp 45) rfl HR2.out hl1 z rfl rfl ?_) | (refine wpList_store_nd rfl rfl (.tmp 4) (.tmp 46) rfl g4 rfl z rfl hb2 ?_; intro W3 hb3 hg3))
          refine ret_nd17 hb3 rfl rfl rfl ⟨?_, below_of_grown (HB1.out.then hB2) hg3 (by have := HB1.out.size; omega) (by have := HB1.out.size; have := hB2.size; omega)⟩
          rw [HNV.out]
        | true =>
          cases b4 with
          | false =>
            have HNV : Hid (Pn.valN n at_ = z) := by show _ = _; rw [HY.out]; simp [Pn.isCol, k1, k2, k3, k4]
            go_upto_region 4 with fail
            go_wp2_with (first | (refine wpList_load_nd_is (j := 1) rfl (.tmp 45) rfl HR2.out hl1 z rfl rfl ?_) | (refine wpList_store_nd rfl rfl (.tmp 4) (.tmp 46) rfl g4 rfl z rfl hb2 ?_; intro W3 hb3 hg3))
            refine ret_nd17 hb3 rfl rfl rfl ⟨?_, below_of_grown (HB1.out.then hB2) hg3 (by have := HB1.out.size; omega) (by have := HB1.out.size; have := hB2.size; omega)⟩
            rw [HNV.out]
          | true =>
            have HNV : Hid (Pn.valN n at_ = y) := by show _ = _; rw [HY.out]; simp [Pn.isCol, k1, k2, k3, k4]
            go_upto_region 5 with fail
            go_wp2_with (first | (refine wpList_load_nd_is (j := 0) rfl (.tmp 49) rfl HR2.out hl0 y rfl rfl ?_) | (refine wpList_store_nd rfl rfl (.tmp 4) (.tmp 50) rfl g4 rfl y rfl hb2 ?_; intro W3 hb3 hg3))
            refine ret_nd17 hb3 rfl rfl rfl ⟨?_, below_of_grown (HB1.out.then hB2) hg3 (by have := HB1.out.size; omega) (by have := HB1.out.size; have := hB2.size; omega)⟩
            rw [HNV.out]
  · have hli : ¬ (n.args.length : Int) = 2 := by omega
    have HNV : Hid (Pn.valN n at_ = Nd.nil) := by
      show _ = _
      unfold Pn.valN
      split
      · next y z e => rw [e] at hlen; exact absurd rfl hlen
      · rfl
    go_wp2_with (refine wpList_store_nd rfl rfl (.tmp 4) (.tmp 9) rfl g4 rfl Nd.nil rfl hb2 ?_; intro W3 hb3 hg3)
    refine ret_nd17 hb3 rfl rfl rfl ⟨?_, below_of_grown (HB1.out.then hB2) hg3 (by have := HB1.out.size; omega) (by have := HB1.out.size; have := hB2.size; omega)⟩
    rw [HNV.out]
end Go.Proofs.YtpahkaffknnjhaaGreatDoor
end

section
/-
  The run of the laws' first lines: the bounds of an index's part, the operator that is opened.
-/
namespace Go.Proofs.YtpahkaffknnjhaaGreatDoor
set_option linter.unusedSimpArgs false
set_option linter.unusedVariables false
open Go.RowKit

/-- The operator's block, behind a call: bytes from which it goes on. -/
def RetRunSt (w0 : World) (gs : Nat) (l : List UInt8) (done : Bool) (e : Ending) (w' : World) : Prop :=
  e = .returned (.tuple #[]) ∧ ∃ A c, Blk w' gs 159 (R18.stc (.slice A l.length c) done (-1)) ∧ BRow w' A l ∧ l.length ≤ c ∧ Below w0.heap.size w0 w'
theorem rbound_no (w : World) (p q r : Value) (b : Bool) : Calls Tryz.prog 146 #[p, q, r, .int .i64 (-1), .bool b] w fun e w' => e = .returned (.tuple #[]) ∧ w' = w := by
  go_enter Tryz.func146, Tryz.ntmps146
  go_wp2_with fail
  (try simp only [Exit.inBlock, Exit.then])
  refine bodyPost_ret (results_none rfl _ _ _) rfl ?_
  exact ⟨rfl, rfl⟩
theorem val_nn (g : Nat) (at_ : Int) (h : at_ = 0) : Pn.valN (R18.nn g) at_ = R18.nb := by subst h; rfl
theorem eval_nb : Ev.eval [] R18.nb = R18.v1 := by rfl
theorem clean_v1 : Key.clean R18.v1 = R18.v1 := by rfl
set_option maxRecDepth 100000 in
set_option maxHeartbeats 8000000 in
theorem rbound_low (w0 : World) (x : Lv) (h : LvIn w0 x) (W : World) (hB : Below w0.heap.size w0 W) (gs : Nat) (hgs : w0.heap.size ≤ gs) (fv : Value) (hs : Blk W gs 159 (R18.stc fv false (-1))) (pA : Option Addr) (pc : Nat) :
    Calls Tryz.prog 146 #[.pointer (some ⟨x.wd, 0, none⟩), .pointer (some ⟨gs, 0, none⟩), .slice pA 0 pc, .int .i64 0, .bool true] W (RetRunSt w0 gs (Key.part R18.v1) false) := by
  have hsc : Blk W.drew gs 159 (R18.stc fv false (-1)) := hs.drew
  have HC : Hid (Below w0.heap.size w0 W.drew) := hB.then (Below.refl W.heap.size W).drewR
  clear hs hB
  have w3 := (h.below HC.out).wd.cell 3
  have s0 := hsc.cell 0
  have s1 := hsc.cell 1
  have s2 := hsc.cell 2
  have s3 := hsc.cell 3
  have s4 := hsc.cell 4
  have s5 := hsc.cell 5
  have s6 := hsc.cell 6
  have s7 := hsc.cell 7
  have s8 := hsc.cell 8
  simp only [Lv.wdc, R18.stc, R18.pmv, List.cons_append, List.getElem?_cons_zero, List.getElem?_cons_succ] at w3 s0 s1 s2 s3 s4 s5 s6 s7 s8
  go_enter Tryz.func146, Tryz.ntmps146
  go_upto_region 1 with fail
  refine wp_region_plan (.take 0 (.take 1 (.take 2 (.take 3 (.take 4 (.take 5 (.take 6 (.take 7 (.take 8 (.take 9 (.take 10 (.take 11 (.take 12 (.take 13 (.take 14 (.take 15 (.take 16 (.take 17 (.take 18 (.fork (.run 19 [0, 1, 2, 3, 4, 5, 6, 7] (.fork (.run 20 [] (.fork (.run 21 [] (.run 22 [] (.run 23 [] .fin))) (.run 22 [] (.run 21 [] (.run 23 [] .fin))))) (.run 22 [0, 1, 2, 3, 4, 5, 6, 7] (.run 20 [] (.run 21 [] (.run 23 [] .fin)))))) (.run 22 [0, 1, 2, 3, 4, 5, 6, 7, 8, 9, 10, 11, 12, 13, 14, 15, 16, 17, 18] (.run 19 [0, 1, 2, 3, 4, 5, 6, 7] (.run 20 [] (.run 21 [] (.run 23 [] .fin))))))))))))))))))))))))) (by kernel_rfl) (by kernel_rfl) (by kernel_rfl) (by kernel_rfl) ?_
  repeat' (first | (refine hZ _ _ ?_; clear hZ) | (refine hZ _ ?_; clear hZ) | (refine hZ ?_; clear hZ) | rw [again_nil] | rw [walk_fin] | ((first | rw [walk_take] | rw [walk_run] | rw [again_cons]); intro Z hZ; simp only [sel, List.getElem?_toArray, List.getElem?_cons_zero, List.getElem?_cons_succ]; go_wp2_with (refine wpList_load_nd_at rfl (.tmp 22) rfl (Lv.nodes (h.below HC.out)).1 (j := 0) (by simp) rfl ?_)))
  repeat' (first
    | (refine hZ _ _ ?_; clear hZ)
    | (refine hZ _ ?_; clear hZ)
    | (refine hZ ?_; clear hZ)
    | rw [again_nil]
    | (rw [walk_fork]; refine ⟨?_, ?_⟩)
    | (
      clear w3 s0 s1 s2 s3 s4 s5 s6 s7 s8
      refine (rcol_any _ x (h.below HC.out)).mono ?_
      rintro e W8 ⟨rfl, hB8⟩
      have HC' := HC
      clear HC
      have HC := Lib.hid (HC'.out.then hB8)
      replace hsc := hsc.below hB8
      (try replace hal := hal.below hB8)
      clear HC' hB8
      have w3 := (h.below HC.out).wd.cell 3
      have s0 := hsc.cell 0
      have s1 := hsc.cell 1
      have s2 := hsc.cell 2
      have s3 := hsc.cell 3
      have s4 := hsc.cell 4
      have s5 := hsc.cell 5
      have s6 := hsc.cell 6
      have s7 := hsc.cell 7
      have s8 := hsc.cell 8
      simp only [Lv.wdc, R18.stc, R18.pmv, List.cons_append, List.getElem?_cons_zero, List.getElem?_cons_succ] at w3 s0 s1 s2 s3 s4 s5 s6 s7 s8
      go_wp2_with fail)
    | (
      clear w3 s0 s1 s2 s3 s4 s5 s6 s7 s8
      refine (pvalue_any _ (R18.nn x.n) (Lv.nodes (h.below HC.out)).2 0).mono ?_
      rintro e W8 ⟨rfl, hB8⟩
      rw [val_nn _ _ rfl]
      have HC' := HC
      clear HC
      have HC := Lib.hid (HC'.out.then hB8)
      replace hsc := hsc.below hB8
      (try replace hal := hal.below hB8)
      clear HC' hB8
      have w3 := (h.below HC.out).wd.cell 3
      have s0 := hsc.cell 0
      have s1 := hsc.cell 1
      have s2 := hsc.cell 2
      have s3 := hsc.cell 3
      have s4 := hsc.cell 4
      have s5 := hsc.cell 5
      have s6 := hsc.cell 6
      have s7 := hsc.cell 7
      have s8 := hsc.cell 8
      simp only [Lv.wdc, R18.stc, R18.pmv, List.cons_append, List.getElem?_cons_zero, List.getElem?_cons_succ] at w3 s0 s1 s2 s3 s4 s5 s6 s7 s8
      go_wp2_with fail)
    | (
      clear w3 s0 s1 s2 s3 s4 s5 s6 s7 s8
      refine (show Calls _ _ #[R18.nb.v, .slice none ([] : List Va).length 0] _ _ from (eval_any w0 none 0 [] ERow.nil (by intro v hv; cases hv) (by simp) R18.nb ((Lv.nodes h).2.kids R18.nb (by simp [R18.nn, Nd.args]))) _ HC.out).mono ?_
      rintro e W8 ⟨rfl, hB8⟩
      rw [eval_nb]
      have HC' := HC
      clear HC
      have HC := Lib.hid (HC'.out.then hB8)
      replace hsc := hsc.below hB8
      (try replace hal := hal.below hB8)
      clear HC' hB8
      have w3 := (h.below HC.out).wd.cell 3
      have s0 := hsc.cell 0
      have s1 := hsc.cell 1
      have s2 := hsc.cell 2
      have s3 := hsc.cell 3
      have s4 := hsc.cell 4
      have s5 := hsc.cell 5
      have s6 := hsc.cell 6
      have s7 := hsc.cell 7
      have s8 := hsc.cell 8
      simp only [Lv.wdc, R18.stc, R18.pmv, List.cons_append, List.getElem?_cons_zero, List.getElem?_cons_succ] at w3 s0 s1 s2 s3 s4 s5 s6 s7 s8
      go_wp2_with fail)
    | (
      (first | rw [walk_take] | rw [walk_run] | rw [again_cons])
      intro Z hZ
      simp only [sel, List.getElem?_toArray, List.getElem?_cons_zero, List.getElem?_cons_succ]
      go_wp2_with (first
        | (refine wpList_load_nd_at rfl (.tmp 22) rfl (Lv.nodes (h.below HC.out)).1 (j := 0) (by simp) rfl ?_)
        | (
          have hne := hsc.lt
          have hga := HC.out.size
          refine wpList_alloc_va rfl rfl ?_
          intro W7 hal hz7 hB8
          clear w3 s0 s1 s2 s3 s4 s5 s6 s7 s8
          have HC' := HC
          clear HC
          have HC := Lib.hid (HC'.out.then hB8)
          replace hsc := hsc.below hB8
          (try replace hal := hal.below hB8)
          clear HC' hB8
          have w3 := (h.below HC.out).wd.cell 3
          have s0 := hsc.cell 0
          have s1 := hsc.cell 1
          have s2 := hsc.cell 2
          have s3 := hsc.cell 3
          have s4 := hsc.cell 4
          have s5 := hsc.cell 5
          have s6 := hsc.cell 6
          have s7 := hsc.cell 7
          have s8 := hsc.cell 8
          simp only [Lv.wdc, R18.stc, R18.pmv, List.cons_append, List.getElem?_cons_zero, List.getElem?_cons_succ] at w3 s0 s1 s2 s3 s4 s5 s6 s7 s8
          )
        | (refine wpList_store_va rfl rfl (.tmp 10) (.tmp 37) rfl _ rfl R18.v1 rfl hal ?_; intro W7 hal7 hg7))))
  all_goals
    rw [walk_fin]
    have HC7 := Lib.hid (below_of_grown HC.out hg7 hga HC.out.size)
    have hdr : W.drew.heap.size = W.heap.size := rfl
    have hs7 := hsc.grown hg7 (by simp only [ne_eq, Option.some.injEq]; omega)
    have HS7 := Lib.hid hs7
    clear w3 s0 s1 s2 s3 s4 s5 s6 s7 s8 hal hz7 HC hsc hg7 hne hga hs7 hdr
    generalize ((_ : World)).heap.size = ga at hal7 ⊢
    have v0 : W7.cell? ⟨ga, 0, none⟩ = some (.int .i64 1) := hal7.cell 0
    go_wp2_with (refine wpList_load_va rfl (.tmp 10) rfl ga rfl hal7 ?_)
    refine (part_any W7 R18.v1 ⟨by decide, by decide, by decide, by decide, by decide⟩ (by decide)).mono ?_
    rw [clean_v1]
    rintro e W8 ⟨A8, c8, rfl, hr8, hc8, hB8⟩
    have HL8 : Hid ((Key.part R18.v1).length = 9) := by show _ = _; decide +kernel
    have HP8 : Hid (BRow (W8.alloc (.cells #[.slice pA 0 pc, .slice A8 (Key.part R18.v1).length c8] 32)) A8 (Key.part R18.v1) ∧ Below w0.heap.size w0 (W8.alloc (.cells #[.slice pA 0 pc, .slice A8 (Key.part R18.v1).length c8] 32)) ∧ Blk (W8.alloc (.cells #[.slice pA 0 pc, .slice A8 (Key.part R18.v1).length c8] 32)) gs 159 (R18.stc fv false (-1))) := by
      have hbA : Below W8.heap.size W8 (W8.alloc (.cells #[.slice pA 0 pc, .slice A8 (Key.part R18.v1).length c8] 32)) := (Below.refl _ _).alloc (Nat.le_refl _) _
      exact ⟨hr8.below hbA, (HC7.out.then hB8).then hbA, (HS7.out.below hB8).below hbA⟩
    have hrow : Row (W8.alloc (.cells #[.slice pA 0 pc, .slice A8 (Key.part R18.v1).length c8] 32)) (some ⟨W8.heap.size, 0, none⟩) [(⟨pA, pc, []⟩ : Part).v, (⟨A8, c8, Key.part R18.v1⟩ : Part).v] := Row.new W8 _ _
    have HCC := Lib.hid (bconcat2 _ W8.heap.size 2 ⟨pA, pc, []⟩ ⟨A8, c8, Key.part R18.v1⟩ hrow ⟨BRow.nil, by simp⟩ ⟨HP8.out.1, by rw [HL8.out]; decide⟩ (by show 0 + (Key.part R18.v1).length ≤ 1000000; rw [HL8.out]; decide))
    clear hr8 hc8 hB8 HC7 HS7 hal7 v0 hrow
    go_wp2_with fail
    refine HCC.out.mono ?_
    rintro e W9 ⟨A9, c9, rfl, ho9, hB9⟩
    rw [show (⟨pA, pc, []⟩ : Part).l ++ (⟨A8, c8, Key.part R18.v1⟩ : Part).l = Key.part R18.v1 from List.nil_append _] at ho9 ⊢
    have HS9 : Hid (Blk W9 gs 159 (R18.stc fv false (-1)) ∧ Below w0.heap.size w0 W9 ∧ BOwn W9 (W8.alloc (.cells #[.slice pA 0 pc, .slice A8 (Key.part R18.v1).length c8] 32)).heap.size A9 c9 (Key.part R18.v1)) := ⟨HP8.out.2.2.below hB9, HP8.out.2.1.then hB9, ho9⟩
    have s12 := HS9.out.1.cell 12
    have f12 := HS9.out.1.free 12
    simp only [R18.stc, R18.pmv, List.cons_append, List.getElem?_cons_zero, List.getElem?_cons_succ, List.nil_append] at s12
    have HE : Hid (RetRunSt w0 gs (Key.part R18.v1) false (.returned (.tuple #[])) (W9.setCell ⟨gs, 12, none⟩ (.slice A9 (Key.part R18.v1).length c9))) := by
      refine ⟨rfl, A9, c9, HS9.out.1.set 12 _, ?_, HS9.out.2.2.cap, ?_⟩
      · exact HS9.out.2.2.row.far (fun a ha => by
          have h1 := HS9.out.2.2.kind a ha
          intro e
          have h2 := HS9.out.1.kind
          rw [e] at h1
          exact absurd (h1.one h2) (by decide)) _
      · exact HS9.out.2.1.grown (grown_setb 12 _) HS9.out.2.1.size fun k hk => by cases hk; exact hgs
    clear ho9 hB9 HP8 HCC HS9 HL8
    go_wp2_with fail
    (try simp only [Exit.inBlock, Exit.then])
    refine bodyPost_ret (results_none rfl _ _ _) rfl ?_
    exact HE.out
end Go.Proofs.YtpahkaffknnjhaaGreatDoor
end

section
/-
  The run of the laws' first lines: the operator is opened.
-/
namespace Go.Proofs.YtpahkaffknnjhaaGreatDoor
set_option linter.unusedSimpArgs false
set_option linter.unusedVariables false
open Go.RowKit

theorem stc_cells {w : World} {gs : Nat} {fv : Value} {dn : Bool} {at_ : Int} (h : Blk w gs 159 (R18.stc fv dn at_)) :
    w.cell? ⟨gs, 0, none⟩ = some (.int .i64 2) ∧ w.cell? ⟨gs, 1, none⟩ = some (.int .i64 0) ∧ w.cell? ⟨gs, 2, none⟩ = some (.int .i64 0) ∧ w.cell? ⟨gs, 3, none⟩ = some (.slice none 0 0) ∧ w.cell? ⟨gs, 4, none⟩ = some (.int .i64 0) ∧ w.cell? ⟨gs, 5, none⟩ = some (.int .i64 (-1)) ∧
    w.cell? ⟨gs, 9, none⟩ = some (.slice none 0 0) ∧ w.cell? ⟨gs, 10, none⟩ = some (.slice none 0 0) ∧ w.cell? ⟨gs, 11, none⟩ = some (.int .i64 0) ∧ w.cell? ⟨gs, 12, none⟩ = some fv ∧ w.cell? ⟨gs, 13, none⟩ = some (.slice none 0 0) ∧ w.cell? ⟨gs, 14, none⟩ = some (.bool dn) ∧ w.cell? ⟨gs, 15, none⟩ = some (.slice none 0 0) ∧ w.cell? ⟨gs, 16, none⟩ = some (.slice none 0 0) ∧ w.cell? ⟨gs, 17, none⟩ = some (.int .i64 at_) :=
  ⟨h.cell 0, h.cell 1, h.cell 2, h.cell 3, h.cell 4, h.cell 5, h.cell 9, h.cell 10, h.cell 11, h.cell 12, h.cell 13, h.cell 14, h.cell 15, h.cell 16, h.cell 17⟩
section
variable {w0 w : World} {gs : Nat} {fv : Value} {dn : Bool} {at_ : Int}
theorem stc_set12 (h : Blk w gs 159 (R18.stc fv dn at_)) (u : Value) : Blk (w.setCell ⟨gs, 12, none⟩ u) gs 159 (R18.stc u dn at_) := h.set 12 _
theorem stc_set13 (h : Blk w gs 159 (R18.stc fv dn at_)) : Blk (w.setCell ⟨gs, 13, none⟩ (.slice none 0 0)) gs 159 (R18.stc fv dn at_) := h.set 13 _
theorem stc_set14 (h : Blk w gs 159 (R18.stc fv dn at_)) (b : Bool) : Blk (w.setCell ⟨gs, 14, none⟩ (.bool b)) gs 159 (R18.stc fv b at_) := h.set 14 _
theorem below_set (h : Below w0.heap.size w0 w) (hg : w0.heap.size ≤ gs) (i : Nat) (u : Value) : Below w0.heap.size w0 (w.setCell ⟨gs, i, none⟩ u) := h.grown (grown_setb i u) h.size fun k hk => by cases hk; exact hg
end
theorem after_nil {r : Option (List UInt8)} (h : Key.IsAfter [] r) : r = none := by
  rcases h with ⟨h, -⟩ | ⟨p, c, t, h, -⟩
  · exact h
  · simp at h
set_option maxRecDepth 100000 in
set_option maxHeartbeats 8000000 in
theorem rseek_any (w0 : World) (x : Lv) (h : LvIn w0 x) (W : World) (hB : Below w0.heap.size w0 W) (gs : Nat) (hgs : w0.heap.size ≤ gs) (fv : Value) (dn : Bool) (hs : Blk W gs 159 (R18.stc fv dn (-1))) :
    Calls Tryz.prog 109 #[.pointer (some ⟨x.wd, 0, none⟩), .pointer (some ⟨gs, 0, none⟩), .slice none 0 0] W (RetRunSt w0 gs (Key.part R18.v1) false) := by
  go_enter Tryz.func109, Tryz.ntmps109
  go_upto_region 1 with fail
  have hbA : Below W.heap.size W (W.alloc (.cells #[] 5)) := (Below.refl _ _).alloc (Nat.le_refl _) _
  have HS : Hid (Blk (W.alloc (.cells #[] 5)) gs 159 (R18.stc fv dn (-1)) ∧ Below w0.heap.size w0 (W.alloc (.cells #[] 5))) := ⟨hs.below hbA, hB.then hbA⟩
  clear hs hB hbA
  generalize World.alloc W _ = W1 at HS ⊢
  generalize W.heap.size = gp
  obtain ⟨s0, s1, s2, s3, s4, s5, s9, s10, s11, s12, s13, s14, s15, s16, s17⟩ := stc_cells HS.out.1
  go_wp2_with fail
  clear s0 s1 s2 s3 s4 s5 s9 s10 s11 s12 s13 s14 s15 s16 s17
  go_loopw [6, 19] (fun pv iv wr => pv = .slice (some ⟨gp, 0, none⟩) 0 0 ∧ iv = .int .i64 0 ∧ wr = W1) (fun _ _ _ => 0)
  case atStart => exact ⟨rfl, rfl, rfl⟩
  case round =>
    obtain ⟨rfl, rfl, rfl⟩ := hrel
    obtain ⟨s0, s1, s2, s3, s4, s5, s9, s10, s11, s12, s13, s14, s15, s16, s17⟩ := stc_cells HS.out.1
    have f14 := HS.out.1.free 14
    go_upto_region 10 with fail
    have HS1 : Hid (Blk (wr.setCell ⟨gs, 14, none⟩ (.bool false)) gs 159 (R18.stc fv false (-1)) ∧ Below w0.heap.size w0 (wr.setCell ⟨gs, 14, none⟩ (.bool false))) := ⟨stc_set14 HS.out.1 false, below_set HS.out.2 hgs 14 _⟩
    clear s0 s1 s2 s3 s4 s5 s9 s10 s11 s12 s13 s14 s15 s16 s17 f14 HS
    generalize World.setCell _ _ _ = W2 at HS1 ⊢
    obtain ⟨s0, s1, s2, s3, s4, s5, s9, s10, s11, s12, s13, s14, s15, s16, s17⟩ := stc_cells HS1.out.1
    have f12 := HS1.out.1.free 12
    go_upto_region 11 with fail
    have HS2 : Hid (Blk (W2.setCell ⟨gs, 12, none⟩ (.slice (some ⟨gp, 0, none⟩) 0 0)) gs 159 (R18.stc (.slice (some ⟨gp, 0, none⟩) 0 0) false (-1)) ∧ Below w0.heap.size w0 (W2.setCell ⟨gs, 12, none⟩ (.slice (some ⟨gp, 0, none⟩) 0 0))) := ⟨stc_set12 HS1.out.1 _, below_set HS1.out.2 hgs 12 _⟩
    clear s0 s1 s2 s3 s4 s5 s9 s10 s11 s12 s13 s14 s15 s16 s17 f12 HS1
    generalize World.setCell _ _ _ = W3 at HS2 ⊢
    go_wp2_with fail
    refine (show Calls _ _ #[.slice (some ⟨gp, 0, none⟩) ([] : List UInt8).length 0] _ _ from kafter_any W3 _ 0 [] BRow.nil (by simp)).mono ?_
    rintro e W4 ⟨r, hr, hB4, hcase⟩
    obtain rfl := after_nil hr
    obtain rfl : e = .returned (.tuple #[.slice none 0 0, .bool false]) := by
      rcases hcase with ⟨-, h⟩ | ⟨a, A, c, h, -⟩
      · exact h
      · cases h
    have HS4 : Hid (Blk W4 gs 159 (R18.stc (.slice (some ⟨gp, 0, none⟩) 0 0) false (-1)) ∧ Below w0.heap.size w0 W4) := ⟨HS2.out.1.below hB4, HS2.out.2.then hB4⟩
    clear hr hB4 hcase HS2
    obtain ⟨s0, s1, s2, s3, s4, s5, s9, s10, s11, s12, s13, s14, s15, s16, s17⟩ := stc_cells HS4.out.1
    have f13 := HS4.out.1.free 13
    go_upto_region 13 with fail
    have HS5 : Hid (Blk (W4.setCell ⟨gs, 13, none⟩ (.slice none 0 0)) gs 159 (R18.stc (.slice (some ⟨gp, 0, none⟩) 0 0) false (-1)) ∧ Below w0.heap.size w0 (W4.setCell ⟨gs, 13, none⟩ (.slice none 0 0))) := ⟨stc_set13 HS4.out.1, below_set HS4.out.2 hgs 13 _⟩
    clear s0 s1 s2 s3 s4 s5 s9 s10 s11 s12 s13 s14 s15 s16 s17 f13 HS4
    generalize World.setCell _ _ _ = W5 at HS5 ⊢
    obtain ⟨s0, s1, s2, s3, s4, s5, s9, s10, s11, s12, s13, s14, s15, s16, s17⟩ := stc_cells HS5.out.1
    go_wp2_with fail
    refine (rbound_low w0 x h W5 HS5.out.2 gs hgs _ HS5.out.1 (some ⟨gp, 0, none⟩) 0).mono ?_
    rintro e W6 ⟨rfl, A6, c6, hs6, hr6, hc6, hB6⟩
    have HE : Hid (RetRunSt w0 gs (Key.part R18.v1) false (.returned (.tuple #[])) W6) := ⟨rfl, A6, c6, hs6, hr6, hc6, hB6⟩
    clear s0 s1 s2 s3 s4 s5 s9 s10 s11 s12 s13 s14 s15 s16 s17 HS5 hr6 hc6 hB6
    obtain ⟨s0, s1, s2, s3, s4, s5, s9, s10, s11, s12, s13, s14, s15, s16, s17⟩ := stc_cells hs6
    clear hs6
    go_wp2_with fail
    refine (rbound_no W6 _ _ _ false).mono ?_
    rintro e W7 ⟨rfl, rfl⟩
    go_wp2_with fail
    go_end0
    exact HE.out
set_option maxRecDepth 100000 in
set_option maxHeartbeats 8000000 in
theorem ropen_any (w0 : World) (x : Lv) (h : LvIn w0 x) (W : World) (hB : Below w0.heap.size w0 W) (gs : Nat) (hgs : w0.heap.size ≤ gs) (hs : Blk W gs 159 (R18.stc (.slice none 0 0) false 0)) :
    Calls Tryz.prog 72 #[.pointer (some ⟨x.wd, 0, none⟩), .pointer (some ⟨gs, 0, none⟩), .slice none 0 0] W (RetRunSt w0 gs (Key.part R18.v1) false) := by
  have HS := Lib.hid (And.intro hs hB)
  obtain ⟨s0, s1, s2, s3, s4, s5, s9, s10, s11, s12, s13, s14, s15, s16, s17⟩ := stc_cells hs
  have f10 := hs.free 10
  have f11 := hs.free 11
  have f14 := hs.free 14
  have f15 := hs.free 15
  have f16 := hs.free 16
  have f17 := hs.free 17
  clear hs hB
  go_enter Tryz.func72, Tryz.ntmps72
  go_upto_region 1 with fail
  have HS2 : Hid (Blk ((((((W.setCell ⟨gs, 10, none⟩ (.slice none 0 0)).setCell ⟨gs, 11, none⟩ (.int .i64 0)).setCell ⟨gs, 14, none⟩ (.bool false)).setCell ⟨gs, 15, none⟩ (.slice none 0 0)).setCell ⟨gs, 16, none⟩ (.slice none 0 0)).setCell ⟨gs, 17, none⟩ (.int .i64 (-1))) gs 159 (R18.stc (.slice none 0 0) false (-1)) ∧
      Below w0.heap.size w0 ((((((W.setCell ⟨gs, 10, none⟩ (.slice none 0 0)).setCell ⟨gs, 11, none⟩ (.int .i64 0)).setCell ⟨gs, 14, none⟩ (.bool false)).setCell ⟨gs, 15, none⟩ (.slice none 0 0)).setCell ⟨gs, 16, none⟩ (.slice none 0 0)).setCell ⟨gs, 17, none⟩ (.int .i64 (-1)))) :=
    ⟨(((((HS.out.1.set 10 _).set 11 _).set 14 _).set 15 _).set 16 _).set 17 _, below_set (below_set (below_set (below_set (below_set (below_set HS.out.2 hgs 10 _) hgs 11 _) hgs 14 _) hgs 15 _) hgs 16 _) hgs 17 _⟩
  clear s0 s1 s2 s3 s4 s5 s9 s10 s11 s12 s13 s14 s15 s16 s17 f10 f11 f14 f15 f16 f17 HS
  generalize World.setCell _ _ _ = W1 at HS2 ⊢
  obtain ⟨s0, s1, s2, s3, s4, s5, s9, s10, s11, s12, s13, s14, s15, s16, s17⟩ := stc_cells HS2.out.1
  go_wp2_with fail
  go_loopw [32] (fun iv wr => iv = .int .i64 0 ∧ wr = W1) (fun _ _ => 0)
  case atStart => exact ⟨rfl, rfl⟩
  case round =>
    obtain ⟨rfl, rfl⟩ := hrel
    go_wp2_with fail
    refine (rseek_any w0 x h wr HS2.out.2 gs hgs _ false HS2.out.1).mono ?_
    rintro e W2 ⟨rfl, hE⟩
    have HE := Lib.hid hE
    clear hE
    go_wp2_with fail
    go_end0
    exact ⟨rfl, HE.out⟩
end Go.Proofs.YtpahkaffknnjhaaGreatDoor
end

section
/-
  The run of the laws' first lines: a row is laid into the row of all.
-/
namespace Go.Proofs.YtpahkaffknnjhaaGreatDoor
set_option linter.unusedSimpArgs false
set_option linter.unusedVariables false
open Go.RowKit Go.Lib

theorem madeCells_elems18 {α : Type} (E : Elem α) (x : α) (hx : E.zero.cells.toList = E.code x) : ∀ n, (madeCells E.zero.cells (n * E.sz)).toList = E.cells (List.replicate n x) := by
  intro n
  have hpos := E.pos
  have hz := E.zsz
  apply List.ext_getElem?
  intro j
  by_cases hj : j < n * E.sz
  · rw [E.cells_get' _ j (by simpa using hj)]
    simp only [List.getElem_replicate]
    have hm : j % E.sz < E.sz := Nat.mod_lt _ hpos
    rw [← hx]
    have hm' : j % E.sz < E.zero.cells.size := by omega
    simp [madeCells, hj, hz]
    rw [getElem!_pos E.zero.cells (j % E.sz) hm', Array.getElem?_eq_getElem hm']
  · rw [List.getElem?_eq_none (by simp [size_madeCells]; omega), List.getElem?_eq_none (by rw [E.cells_length]; simp; omega)]
theorem wpList_make_va1 {w : World} {ops : Array Oper} {rest : List Oper} {o : Oper} {a : Act} {Q : Exit → Act → World → Prop} (hgd : o.guard = none) (x y : Operand) (hop : o.op = .makeSlice 37 x y)
    (hx : a.eval x = .int .i64 1) (hy : a.eval y = .int .i64 1)
    (h : ∀ w1, Blk w1 w.heap.size 64 Key.nul.cells → Below w.heap.size w w1 → w.heap.size + 1 ≤ w1.heap.size → wpList Tryz.prog ops Q rest (a.put o.dst (.slice (some ⟨w.heap.size, 0, none⟩) 1 1)) w1) :
    wpList Tryz.prog ops Q (o :: rest) a w := by
  obtain ⟨i, hi, hz, hs, hby⟩ := info_parts eVa.info
  refine wpList_make_full w hgd x y 37 hop w.heap.size 64 i _ 4 Tryz.underlying37 hi hz hs .i64 .i64 1 1 1 hx hy rfl rfl (by rw [hby]; decide) (by decide) (Nat.le_refl _) fun w1 h1 h2 => ?_
  have e : (madeCells eVa.zero.cells (1 * 4)).toList = eVa.cells [Key.nul] := madeCells_elems18 eVa Key.nul rfl 1
  rw [e] at h1
  have ho : EOwn eVa w1 w.heap.size (some ⟨w.heap.size, 0, none⟩) 1 [Key.nul] := h1
  obtain ⟨sp, hb, hl, -⟩ := ho.toBlk
  have hsp : sp = [] := by
    have h4 : (eVa.cells [Key.nul]).length = 4 := rfl
    rw [List.length_append, h4] at hl
    exact List.eq_nil_of_length_eq_zero (by have : (1 * eVa.sz) = 4 := rfl; omega)
  subst hsp
  rw [List.append_nil] at hb
  exact h w1 hb ((Below.refl _ w).grown h2 (Nat.le_refl _) (fun k hk => by cases hk)) hb.lt
theorem run_copy_va0 (g : Nat) (w : World) : (Builtin.copy_ #[37, 37] 3 #[.slice (some ⟨g, 0, none⟩) 1 1, .slice none 0 0]).run Tryz.prog w = .ok (.int .i64 0) w := by
  have hl : ∀ (x : Addr), (loadCells x 0).run Tryz.prog w = .ok #[] w := fun x => by simpa using run_loadCells_list (P := Tryz.prog) w x [] (by simp)
  have hu := run_underlying (P := Tryz.prog) Tryz.underlying37
  have hq : ∃ i, Tryz.prog.info? 64 = some i := by
    have h := eVa.info
    cases hx : Tryz.prog.info? 64 with
    | none => rw [show Tryz.prog.info? eVa.e = none from hx] at h; cases h
    | some i => exact ⟨i, rfl⟩
  obtain ⟨i, hq⟩ := hq
  simp [Builtin.copy_, hu, Builtin.lenOf, Builtin.firstCells, Go.sizeOf, typeInfo, hq, storeCells, hl]
  rfl
/-- What put answers. -/
def RetPut (W : World) (v : Va) (e : Ending) (w' : World) : Prop := ∃ g, e = .returned (.slice (some ⟨g, 0, none⟩) 1 1) ∧ Blk w' g 64 v.cells ∧ W.heap.size ≤ g ∧ Below W.heap.size W w'
set_option maxRecDepth 100000 in
set_option maxHeartbeats 8000000 in
theorem rput_any (W : World) (x : Lv) (h : LvIn W x) (A : Option Addr) (c : Nat) (v : Va) (hr : ERow eVa W A [v]) (hv : v.ok) :
    Calls Tryz.prog 111 #[.pointer (some ⟨x.wd, 0, none⟩), .slice none 0 0, .int .i64 0, .slice A 1 c] W (RetPut W (Key.clean v)) := by
  have HR := Lib.hid hr
  have HV := Lib.hid hv
  have c0 := h.wd.cell 2
  simp only [Lv.wdc, List.getElem?_cons_zero, List.getElem?_cons_succ] at c0
  clear hr hv
  go_enter Tryz.func111, Tryz.ntmps111
  go_upto_region 2 with (at_make; refine wpList_make_va1 rfl (.tmp 16) (.tmp 16) rfl rfl rfl ?_; intro W1 hb1 hB1 hz1)
  have h1 := h.below hB1
  have HX : Hid (LvIn W1 x ∧ Below W.heap.size W W1 ∧ Blk W1 W.heap.size 64 Key.nul.cells) := ⟨h1, hB1, hb1⟩
  have c1 := h1.wd.cell 1
  have c2 := h1.wd.cell 2
  have cb := h1.b.cell 0
  simp only [Lv.wdc, List.getElem?_cons_zero, List.getElem?_cons_succ] at c1 c2 cb
  clear c0 hb1 hB1 hz1 h1
  obtain ⟨g, hg⟩ : ∃ g, W.heap.size = g := ⟨_, rfl⟩
  have HGW := Lib.hid hg
  rw [hg] at HX ⊢
  clear hg
  have hcp := run_copy_va0
  go_upto_region 7 with fail
  clear hcp c1 c2 cb
  go_loopw [11] (fun iv wr => (iv = .int .i64 0 ∧ Hid (Below W.heap.size W wr ∧ Blk wr g 64 Key.nul.cells)) ∨ (iv = .int .i64 1 ∧ Hid (Below W.heap.size W wr ∧ Blk wr g 64 (Key.clean v).cells))) (fun iv _ => 2 - (intOf iv).toNat)
  case atStart => exact .inl ⟨rfl, by have h2 := HX.out.2.1; rw [← HGW.out] at h2; exact h2, HX.out.2.2⟩
  case round =>
    clear HX
    rcases hrel with ⟨rfl, HJ⟩ | ⟨rfl, HJ⟩
    · have h1 := h.below HJ.out.1
      have c1 := h1.wd.cell 1
      have cb := h1.b.cell 0
      simp only [Lv.wdc, List.getElem?_cons_zero, List.getElem?_cons_succ] at c1 cb
      clear h1
      go_wp2_with fail
      refine (show Calls _ _ #[(Run.col 0).v, .slice A [v].length c] _ _ from (eval_any W A c [v] HR.out (by intro u hu; rw [List.mem_singleton.1 hu]; exact HV.out) (by simp) (Run.col 0) (Run.col_in _ ⟨by decide, by decide⟩)) wr HJ.out.1).mono ?_
      rintro e W2 ⟨rfl, hB2⟩
      rw [Run.eval_col, show Ev.atV [v] 0 = Key.clean v from rfl]
      have HJ2 : Hid (Below W.heap.size W W2 ∧ Blk W2 g 64 Key.nul.cells) := ⟨HJ.out.1.then hB2, HJ.out.2.below hB2⟩
      clear hB2 HJ c1 cb
      go_wp2_with (refine wpList_store_va rfl rfl (.tmp 72) (.tmp 71) rfl g rfl (Key.clean v) rfl HJ2.out.2 ?_; intro W3 hb3 hg3)
      have HJ3 : Hid (Below W.heap.size W W3 ∧ Blk W3 g 64 (Key.clean v).cells) := ⟨below_of_grown HJ2.out.1 hg3 (by rw [HGW.out]; exact Nat.le_refl _) HJ2.out.1.size, hb3⟩
      clear hb3 hg3 HJ2
      go_roundw
      case rel => exact .inr ⟨rfl, HJ3.out⟩
      case measure => simp [intOf]
    · go_wp2_with fail
      go_ret
      exact ⟨g, rfl, HJ.out.2, by rw [HGW.out]; exact Nat.le_refl _, HJ.out.1⟩
end Go.Proofs.YtpahkaffknnjhaaGreatDoor
end

section
/-
  The run of the laws' first lines: an index's next row.
-/
namespace Go.Proofs.YtpahkaffknnjhaaGreatDoor
set_option linter.unusedSimpArgs false
set_option linter.unusedVariables false
open Go.RowKit

theorem Lv.sorted {W : World} {x : Lv} (h : LvIn W x) : ∀ k ∈ x.K, Run.Strict (Run.keysG k) := by
  intro k hk
  have hm : Run.keysG k ∈ x.K.map Run.keysG := List.mem_map.2 ⟨k, hk, rfl⟩
  rw [h.k, List.mem_singleton] at hm
  rw [hm]
  refine List.pairwise_cons.2 ⟨fun y hy => ?_, List.pairwise_cons.2 ⟨(fun y hy => by cases hy), List.Pairwise.nil⟩⟩
  rw [List.mem_singleton.1 hy]
  decide +kernel
/-- What entry answers: a row, and from where it goes on. -/
def RetEnt (w0 : World) (gs : Nat) (kk : List UInt8) (v : Va) (e : Ending) (w' : World) : Prop :=
  ∃ g A c, e = .returned (.tuple #[.slice (some ⟨g, 0, none⟩) 1 1, .bool true]) ∧ Blk w' g 64 v.cells ∧ Blk w' gs 159 (R18.stc (.slice A (kk ++ [0]).length c) false (-1)) ∧ BRow w' A (kk ++ [0]) ∧ (kk ++ [0]).length ≤ c ∧ w0.heap.size ≤ g ∧ Below w0.heap.size w0 w'
set_option maxRecDepth 100000 in
set_option maxHeartbeats 8000000 in
theorem rentry_some (w0 : World) (x : Lv) (h : LvIn w0 x) (W : World) (hB : Below w0.heap.size w0 W) (gs : Nat) (hgs : w0.heap.size ≤ gs) (A : Option Addr) (c : Nat) (F kk P : List UInt8) (id : Nat) (v : Va) (hs : Blk W gs 159 (R18.stc (.slice A F.length c) false (-1))) (hF : BRow W A F)
    (hk : Run.seekOf (x.K.map Run.keysG) 0 F = some kk) (hkk : kk = P ++ Key.id (id : Int)) (hkl : kk.length ≤ 1000) (hid : id ≤ 1000) (hrow : Run.rowOf (x.G.map Run.rowsG) 0 ((id : Int) - 1) = some [v]) (hv : v.ok) :
    Calls Tryz.prog 112 #[.pointer (some ⟨x.wd, 0, none⟩), .pointer (some ⟨gs, 0, none⟩), .slice none 0 0] W (RetEnt w0 gs kk (Key.clean v)) := by
  have hms := meth_seek
  have hmr := meth_row
  have qT : ∀ (w : World) (a : Option Addr) (n c n' c' : Nat), (binOp .neq 32 (.slice a n c) (.slice none n' c')).run Tryz.prog w = .ok (.bool (!a.isNone)) w := fun w a n c n' c' => run_neq_slice_nil_any w _ _ a n c n' c' Tryz.underlying32
  have HW := Lib.hid (And.intro hB hF)
  have HS := Lib.hid hs
  have HK := Lib.hid hk
  have HKK := Lib.hid hkk
  have HROW := Lib.hid hrow
  have HV := Lib.hid hv
  have HSO := Lib.hid fun k hk => (Lv.sorted h k hk).sorted
  have hk8 : 8 ≤ kk.length := by rw [hkk, List.length_append, Key.id_length]; omega
  obtain ⟨s0, s1, s2, s3, s4, s5, s9, s10, s11, s12, s13, s14, s15, s16, s17⟩ := stc_cells hs
  have c10 := (h.below hB).wd.cell 10
  simp only [Lv.wdc, List.getElem?_cons_zero, List.getElem?_cons_succ] at c10
  clear hs hB hF hk hkk hrow hv
  go_enter Tryz.func112, Tryz.ntmps112
  go_wp2_with fail
  go_loopw [6, 7] (fun v6 v7 wr => v6 = .slice none 0 0 ∧ v7 = .bool false ∧ wr = W) (fun _ _ _ => 0)
  case atStart => exact ⟨rfl, rfl, rfl⟩
  case round =>
    obtain ⟨rfl, rfl, rfl⟩ := hrel
    go_upto_region 2 with fail
    refine wp_region_plan (.take 0 (.take 1 (.take 2 (.take 3 (.take 4 (.take 5 (.take 6 (.take 7 (.take 8 (.take 9 (.take 10 (.take 11 (.take 12 (.take 13 (.take 14 (.run 15 [] (.take 16 (.take 17 (.take 18 (.take 19 (.take 20 (.take 21 (.take 22 .fin))))))))))))))))))))))) (by kernel_rfl) (by kernel_rfl) (by kernel_rfl) (by kernel_rfl) ?_
    repeat' (first | (refine hZ _ _ ?_; clear hZ) | (refine hZ _ ?_; clear hZ) | (refine hZ ?_; clear hZ) | rw [again_nil] | rw [walk_fin] | ((first | rw [walk_take] | rw [walk_run] | rw [again_cons]); intro Z hZ; simp only [sel, List.getElem?_toArray, List.getElem?_cons_zero, List.getElem?_cons_succ]; go_wp2_with (fail)))
    clear s0 s1 s2 s3 s4 s5 s9 s10 s11 s12 s13 s14 s15 s16 s17 c10
    have hD : Below w0.heap.size w0 wr.drew := HW.out.1.then (Below.refl wr.heap.size wr).drewR
    have hse := mseek_any wr.drew x.m x.G x.K (h.below hD).m HSO.out 0 A c F (HW.out.2.below (Below.refl wr.heap.size wr).drewR)
    rw [HK.out] at hse
    refine hse.mono ?_
    clear hse hD
    rintro e W1 ⟨hB1, A1, c1, rfl, ho1⟩
    have HW1 : Hid (Below w0.heap.size w0 W1 ∧ Blk W1 gs 159 (R18.stc (.slice A F.length c) false (-1)) ∧ BOwn W1 0 A1 c1 kk) := ⟨(HW.out.1.then (Below.refl wr.heap.size wr).drewR).then hB1, HS.out.drew.below hB1, ho1.mono (Nat.zero_le _)⟩
    obtain ⟨g1, rfl⟩ : ∃ g, A1 = some ⟨g, 0, none⟩ := by
      rcases ho1.form with ⟨-, -, hn⟩ | ⟨g, hg, -⟩
      · rw [hn] at hk8; simp at hk8
      · exact ⟨g, hg⟩
    have hc1 : kk.length ≤ c1 := HW1.out.2.2.cap
    clear hB1 ho1 HW HS HK
    obtain ⟨s0, s1, s2, s3, s4, s5, s9, s10, s11, s12, s13, s14, s15, s16, s17⟩ := stc_cells HW1.out.2.1
    have hk8i : ¬ (kk.length : Int) < 8 := by omega
    have hsub : (kk.length : Int) - 8 = ((kk.length - 8 : Nat) : Int) := by omega
    go_wp2_with fail
    repeat' (first | (refine hZ _ _ ?_; clear hZ) | (refine hZ _ ?_; clear hZ) | (refine hZ ?_; clear hZ) | rw [again_nil] | rw [walk_fin] | ((first | rw [walk_take] | rw [walk_run] | rw [again_cons]); intro Z hZ; simp only [sel, List.getElem?_toArray, List.getElem?_cons_zero, List.getElem?_cons_succ]; go_wp2_with (fail)))
    go_upto_region 7 with fail
    clear s0 s1 s2 s3 s4 s5 s9 s10 s11 s12 s13 s14 s15 s16 s17
    go_wp2_with fail
    refine (clone_any W1 (some ⟨g1, 0, none⟩) c1 kk HW1.out.2.2.row (by omega)).mono ?_
    rintro e W2 ⟨A2, c2, rfl, ho2, hB2⟩
    have hbA : Below W2.heap.size W2 (W2.alloc (.cells #[.int .u8 0] 5)) := (Below.refl _ _).alloc (Nat.le_refl _) _
    have hrA : BRow (W2.alloc (.cells #[.int .u8 0] 5)) (some ⟨W2.heap.size, 0, none⟩) [0] := BRow.one W2 0 (.int .u8 0) 5 rfl
    have HW2 : Hid (Below w0.heap.size w0 (W2.alloc (.cells #[.int .u8 0] 5)) ∧ Blk (W2.alloc (.cells #[.int .u8 0] 5)) gs 159 (R18.stc (.slice A F.length c) false (-1)) ∧ BOwn (W2.alloc (.cells #[.int .u8 0] 5)) W1.heap.size A2 c2 kk ∧ BRow (W2.alloc (.cells #[.int .u8 0] 5)) (some ⟨g1, 0, none⟩) kk ∧ W1.heap.size ≤ (W2.alloc (.cells #[.int .u8 0] 5)).heap.size ∧ w0.heap.size ≤ W1.heap.size ∧ gs < W1.heap.size ∧ g1 < W1.heap.size ∧ g1 ≠ gs) := by
      refine ⟨(HW1.out.1.then hB2).then hbA, (HW1.out.2.1.below hB2).below hbA, ho2.below hbA, (HW1.out.2.2.row.below hB2).below hbA, Nat.le_trans hB2.size hbA.size, HW1.out.1.size, HW1.out.2.1.lt, ?_, ?_⟩
      · have := (HW1.out.2.2.block _ rfl).2
        exact this
      · rintro rfl
        exact absurd ((HW1.out.2.2.kind _ rfl).one HW1.out.2.1.kind) (by decide)
    clear ho2 hB2 hbA HW1
    go_upto_region 8 with (
      at_builtin
      refine wpList_append_bytes rfl (.tmp 75) (.tmp 76) rfl kk.length rfl HW2.out.2.2.1 rfl 1 rfl hrA rfl (by simp; omega) HW2.out.2.2.2.2.1 ?_
      intro A3 c3 W3 ho3 hb3 hg3 _
      have HB3 := Lib.hid (HW2.out.1.trans (hb3.mono HW2.out.2.2.2.2.2.1))
      have HR3 : Hid (BRow W3 (some ⟨g1, 0, none⟩) kk) := HW2.out.2.2.2.1.keepX hg3.size fun _ a ha => by
        cases ha
        refine hg3.block _ ?_ fun e => ?_
        · have h1 := HW2.out.2.2.2.2.2.2.2.1
          have h2 := HW2.out.2.2.2.2.1
          show g1 < _
          omega
        · cases hA : A2 with
          | none => rw [hA] at e; cases e
          | some a2 =>
            rw [hA] at e
            have h1 := (HW2.out.2.2.1.block a2 hA).1
            have h2 := HW2.out.2.2.2.2.2.2.2.1
            simp only [Option.map_some, Option.some.injEq] at e
            omega
      have hs3 : Blk W3 gs 159 (R18.stc (.slice A F.length c) false (-1)) := HW2.out.2.1.apart hg3 (fun y hy => by
        cases hA : A2 with
        | none => rw [hA] at hy; cases hy
        | some a2 => rw [hA] at hy; cases hy; exact HW2.out.2.2.1.kind a2 hA) (by decide)
      have HO3 := Lib.hid ho3
      have HS3 := Lib.hid hs3
      obtain ⟨s0, s1, s2, s3, s4, s5, s9, s10, s11, s12, s13, s14, s15, s16, s17⟩ := stc_cells hs3
      have f12 := hs3.free 12
      clear ho3 hb3 hg3 hs3)
    have HW4 : Hid (Below w0.heap.size w0 (W3.setCell ⟨gs, 12, none⟩ (.slice A3 (kk.length + 1) c3)) ∧ Blk (W3.setCell ⟨gs, 12, none⟩ (.slice A3 (kk.length + 1) c3)) gs 159 (R18.stc (.slice A3 (kk ++ [0]).length c3) false (-1)) ∧ BRow (W3.setCell ⟨gs, 12, none⟩ (.slice A3 (kk.length + 1) c3)) A3 (kk ++ [0]) ∧ (kk ++ [0]).length ≤ c3 ∧ BRow (W3.setCell ⟨gs, 12, none⟩ (.slice A3 (kk.length + 1) c3)) (some ⟨g1, 0, none⟩) kk) := by
      refine ⟨below_set HB3.out hgs 12 _, ?_, ?_, HO3.out.cap, ?_⟩
      · rw [List.length_append]
        exact stc_set12 HS3.out _
      · exact HO3.out.row.far (fun a ha e => absurd ((HO3.out.kind a ha).one (by rw [e]; exact HS3.out.kind)) (by decide)) _
      · exact HR3.out.far (fun a ha => by cases ha; exact HW2.out.2.2.2.2.2.2.2.2) _
    clear s0 s1 s2 s3 s4 s5 s9 s10 s11 s12 s13 s14 s15 s16 s17 f12 HB3 HR3 HO3 HS3 HW2 hrA
    generalize World.setCell _ _ _ = W4 at HW4 ⊢
    go_wp2_with fail
    have h8 : kk.length - (kk.length - 8) = 8 := by omega
    have HID : Hid (BRow W4 (some ⟨g1, kk.length - 8, none⟩) (Key.id (id : Int))) := by
      have hd := HW4.out.2.2.2.2.drop (kk.length - 8)
      have e : kk.drop (kk.length - 8) = Key.id (id : Int) := by
        have hl : kk.length - 8 = P.length := by rw [HKK.out, List.length_append, Key.id_length]; omega
        rw [hl, HKK.out, List.drop_left]
      rw [e] at hd
      have e2 : (some (⟨g1, 0, none⟩ : Addr)).map (fun a => a.add (kk.length - 8)) = some ⟨g1, kk.length - 8, none⟩ := by
        show some (Addr.add ⟨g1, 0, none⟩ _) = _
        rw [Addr.add_lit, Nat.zero_add]
      rw [e2] at hd
      exact hd
    have hc8 : 8 ≤ c1 - (kk.length - 8) := by omega
    rw [h8]
    refine (kreadid_id W4 _ _ (id : Int) (by omega) (by omega) HID.out hc8).mono ?_
    rintro e W5 ⟨rfl, rfl⟩
    clear h8 HID hc8 hms hk8i hsub
    obtain ⟨s0, s1, s2, s3, s4, s5, s9, s10, s11, s12, s13, s14, s15, s16, s17⟩ := stc_cells HW4.out.2.1
    have c10 := (h.below HW4.out.1).wd.cell 10
    have c0 := (h.below HW4.out.1).wd.cell 0
    have ct := (h.below HW4.out.1).t.cell 0
    simp only [Lv.wdc, List.getElem?_cons_zero, List.getElem?_cons_succ] at c10 c0 ct
    go_upto_region 9 with fail
    refine wp_region_plan (.take 0 (.take 1 (.take 2 (.take 3 (.take 4 (.take 5 (.take 6 (.take 7 (.take 8 (.take 9 (.take 10 (.take 11 (.take 12 (.take 13 (.take 14 (.take 15 (.take 16 (.take 17 (.take 18 (.run 19 [] (.take 20 (.take 21 (.take 22 (.take 23 (.take 24 (.take 25 (.take 26 .fin))))))))))))))))))))))))))) (by kernel_rfl) (by kernel_rfl) (by kernel_rfl) (by kernel_rfl) ?_
    repeat' (first | (refine hZ _ _ ?_; clear hZ) | (refine hZ _ ?_; clear hZ) | (refine hZ ?_; clear hZ) | rw [again_nil] | rw [walk_fin] | ((first | rw [walk_take] | rw [walk_run] | rw [again_cons]); intro Z hZ; simp only [sel, List.getElem?_toArray, List.getElem?_cons_zero, List.getElem?_cons_succ]; go_wp2_with (fail)))
    clear s0 s1 s2 s3 s4 s5 s9 s10 s11 s12 s13 s14 s15 s16 s17 c10 c0 ct hmr
    have hD : Below w0.heap.size w0 W5.drew := HW4.out.1.then (Below.refl W5.heap.size W5).drewR
    have hro := mrow_any W5.drew x.m x.G x.K (h.below hD).m 0 (id : Int) (by omega)
    rw [HROW.out] at hro
    refine hro.mono ?_
    clear hro hD
    rintro e W6 ⟨hB6, A6, c6, rfl, ho6⟩
    have HW6 : Hid (Below w0.heap.size w0 W6 ∧ Blk W6 gs 159 (R18.stc (.slice A3 (kk ++ [0]).length c3) false (-1)) ∧ BRow W6 A3 (kk ++ [0]) ∧ (kk ++ [0]).length ≤ c3 ∧ EOwn eVa W6 0 A6 c6 [v]) :=
      ⟨(HW4.out.1.then (Below.refl W5.heap.size W5).drewR).then hB6, HW4.out.2.1.drew.below hB6, (HW4.out.2.2.1.below (Below.refl W5.heap.size W5).drewR).below hB6, HW4.out.2.2.2.1, ho6.mono (Nat.zero_le _)⟩
    clear hB6 ho6 HW4
    obtain ⟨s0, s1, s2, s3, s4, s5, s9, s10, s11, s12, s13, s14, s15, s16, s17⟩ := stc_cells HW6.out.2.1
    go_wp2_with fail
    repeat' (first | (refine hZ _ _ ?_; clear hZ) | (refine hZ _ ?_; clear hZ) | (refine hZ ?_; clear hZ) | rw [again_nil] | rw [walk_fin] | ((first | rw [walk_take] | rw [walk_run] | rw [again_cons]); intro Z hZ; simp only [sel, List.getElem?_toArray, List.getElem?_cons_zero, List.getElem?_cons_succ]; go_wp2_with (fail)))
    go_wp2_with fail
    refine (rput_any W6 x (h.below HW6.out.1) A6 c6 v HW6.out.2.2.2.2.row HV.out).mono ?_
    rintro e W7 ⟨g7, rfl, hb7, hg7, hB7⟩
    have HE : Hid (RetEnt w0 gs kk (Key.clean v) (.returned (.tuple #[.slice (some ⟨g7, 0, none⟩) 1 1, .bool true])) W7) :=
      ⟨g7, A3, c3, rfl, hb7, HW6.out.2.1.below hB7, HW6.out.2.2.1.below hB7, HW6.out.2.2.2.1, Nat.le_trans HW6.out.1.size hg7, HW6.out.1.then hB7⟩
    clear s0 s1 s2 s3 s4 s5 s9 s10 s11 s12 s13 s14 s15 s16 s17 hb7 hg7 hB7 HW6
    go_wp2_with fail
    go_ret2
    exact HE.out
/-- What entry answers at the end. -/
def RetEntNo (W : World) (gs : Nat) (fv : Value) (e : Ending) (w' : World) : Prop :=
  e = .returned (.tuple #[.slice none 0 0, .bool false]) ∧ Blk w' gs 159 (R18.stc fv true (-1)) ∧ W.grownBy w' (some gs)
set_option maxRecDepth 100000 in
set_option maxHeartbeats 8000000 in
theorem rentry_none (x : Lv) (W : World) (h : LvIn W x) (gs : Nat) (A : Option Addr) (c : Nat) (F : List UInt8) (hs : Blk W gs 159 (R18.stc (.slice A F.length c) false (-1))) (hF : BRow W A F)
    (hk : Run.seekOf (x.K.map Run.keysG) 0 F = none) :
    Calls Tryz.prog 112 #[.pointer (some ⟨x.wd, 0, none⟩), .pointer (some ⟨gs, 0, none⟩), .slice none 0 0] W (RetEntNo W gs (.slice A F.length c)) := by
  have hms := meth_seek
  have HW := Lib.hid (And.intro (Below.refl W.heap.size W) hF)
  have HS := Lib.hid hs
  have HK := Lib.hid hk
  have HSO := Lib.hid fun k hk => (Lv.sorted h k hk).sorted
  obtain ⟨s0, s1, s2, s3, s4, s5, s9, s10, s11, s12, s13, s14, s15, s16, s17⟩ := stc_cells hs
  have c10 := h.wd.cell 10
  simp only [Lv.wdc, List.getElem?_cons_zero, List.getElem?_cons_succ] at c10
  clear hs hF hk
  go_enter Tryz.func112, Tryz.ntmps112
  go_wp2_with fail
  go_loopw [6, 7] (fun v6 v7 wr => v6 = .slice none 0 0 ∧ v7 = .bool false ∧ wr = W) (fun _ _ _ => 0)
  case atStart => exact ⟨rfl, rfl, rfl⟩
  case round =>
    obtain ⟨rfl, rfl, rfl⟩ := hrel
    go_upto_region 2 with fail
    refine wp_region_plan (.take 0 (.take 1 (.take 2 (.take 3 (.take 4 (.take 5 (.take 6 (.take 7 (.take 8 (.take 9 (.take 10 (.take 11 (.take 12 (.take 13 (.take 14 (.run 15 [] (.take 16 (.take 17 (.take 18 (.take 19 (.take 20 (.take 21 (.take 22 .fin))))))))))))))))))))))) (by kernel_rfl) (by kernel_rfl) (by kernel_rfl) (by kernel_rfl) ?_
    repeat' (first | (refine hZ _ _ ?_; clear hZ) | (refine hZ _ ?_; clear hZ) | (refine hZ ?_; clear hZ) | rw [again_nil] | rw [walk_fin] | ((first | rw [walk_take] | rw [walk_run] | rw [again_cons]); intro Z hZ; simp only [sel, List.getElem?_toArray, List.getElem?_cons_zero, List.getElem?_cons_succ]; go_wp2_with (fail)))
    clear s0 s1 s2 s3 s4 s5 s9 s10 s11 s12 s13 s14 s15 s16 s17 c10
    have hD : Below wr.heap.size wr wr.drew := HW.out.1.then (Below.refl wr.heap.size wr).drewR
    have hse := mseek_any wr.drew x.m x.G x.K (h.below hD).m HSO.out 0 A c F (HW.out.2.below (Below.refl wr.heap.size wr).drewR)
    rw [HK.out] at hse
    refine hse.mono ?_
    clear hse hD
    rintro e W1 ⟨hB1, rfl⟩
    have HW1 : Hid (Below wr.heap.size wr W1 ∧ Blk W1 gs 159 (R18.stc (.slice A F.length c) false (-1))) := ⟨(HW.out.1.then (Below.refl wr.heap.size wr).drewR).then hB1, HS.out.drew.below hB1⟩
    clear hB1 HW HS HK
    obtain ⟨s0, s1, s2, s3, s4, s5, s9, s10, s11, s12, s13, s14, s15, s16, s17⟩ := stc_cells HW1.out.2
    have f14 := HW1.out.2.free 14
    go_wp2_with fail
    repeat' (first | (refine hZ _ _ ?_; clear hZ) | (refine hZ _ ?_; clear hZ) | (refine hZ ?_; clear hZ) | rw [again_nil] | rw [walk_fin] | ((first | rw [walk_take] | rw [walk_run] | rw [again_cons]); intro Z hZ; simp only [sel, List.getElem?_toArray, List.getElem?_cons_zero, List.getElem?_cons_succ]; go_wp2_with (fail)))
    go_upto_region 14 with fail
    have HE : Hid (RetEntNo wr gs (.slice A F.length c) (.returned (.tuple #[.slice none 0 0, .bool false])) (W1.setCell ⟨gs, 14, none⟩ (.bool true))) := ⟨rfl, stc_set14 HW1.out.2 true, grown_set (grown_belowR (grown_refl wr (some gs)) HW1.out.1) 14 _⟩
    clear s0 s1 s2 s3 s4 s5 s9 s10 s11 s12 s13 s14 s15 s16 s17 f14 HW1
    go_wp2_with fail
    go_ret2
    exact HE.out
end Go.Proofs.YtpahkaffknnjhaaGreatDoor
end

