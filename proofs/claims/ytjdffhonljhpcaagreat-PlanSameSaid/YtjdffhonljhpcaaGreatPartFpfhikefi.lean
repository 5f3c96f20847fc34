/-
  Texts of a proof, one behind the other (each with its own head).
-/
import Derived.Test.YtjdffhonljhpcaaGreatPartEkhdbpodp
section
/-
  The contract of a planner's join.
-/
namespace Go.Proofs.YtjdffhonljhpcaaGreat
set_option linter.unusedSimpArgs false
set_option linter.unusedVariables false
open Go.RowKit

namespace Pn
theorem joinF_drop (x : PX) (j : Nat × Nat) (l : Pl) (n : Int) (L : List Df) (i : Nat) (h : i < L.length) (out : Pl) : joinF x j l n i (L.drop i) out = joinF x j l n (i + 1) (L.drop (i + 1)) (match one j.2 with
    | some f => if fits x f i && !(eqN x f L[i] j.1).isEmpty then lessP out (mkLookup x j.1 f i L[i] l n) else out
    | none => out) := by
  rw [List.drop_eq_getElem_cons h]; rfl
end Pn
theorem loop_at {W : World} {g1 g2 : Nat} {pl pr : Pm} {c n : Int} (hl : PmIn W pl) (hr : PmIn W pr) (ba : Blk W g1 44 (pl.cells ++ pr.cells))
    (bb : Blk W g2 44 [.int .i64 3, .int .i64 (-1), .int .i64 (-1), .slice none 0 0, .int .i64 (-1), .int .i64 (-1), .int .i64 c, .int .i64 n, .slice (some ⟨g1, 0, none⟩) 2 2]) :
    OptAt W (.pointer (some ⟨g2, 0, none⟩)) (some (.mk 3 (-1) (-1) [] (-1) (-1) c n [pl.e, pr.e])) :=
  ⟨g2, .mk 3 (-1) (-1) none [] 0 (-1) (-1) c n (some ⟨g1, 0, none⟩) [pl, pr] 2, rfl, bb, .mk (EOwn.nil _ _) (Blk.own ePm ba [pl, pr] (by simp [Elem.cells, ePm]) (by show 2 ≤ 9223372036854775807; decide) (Nat.zero_le _)) (by
    intro k hk
    simp only [Pm.kids, List.mem_cons, List.not_mem_nil, or_false] at hk
    rcases hk with rfl | rfl
    · exact hl
    · exact hr) (Nat.zero_le _) (by show 2 ≤ 1000; decide), rfl⟩
theorem lookup_at {W : World} {g1 g2 : Nat} {pl : Pm} {f i c n : Int} {ea : Option Addr} {ec : Nat} {E : List Int} (hl : PmIn W pl) (he : EOwn eInt W 0 ea ec E) (hel : E.length ≤ 1000) (ba : Blk W g1 44 pl.cells)
    (bb : Blk W g2 44 [.int .i64 4, .int .i64 f, .int .i64 i, .slice ea E.length ec, .int .i64 (-1), .int .i64 (-1), .int .i64 c, .int .i64 n, .slice (some ⟨g1, 0, none⟩) 1 1]) :
    PmAt W g2 (.mk 4 f i E (-1) (-1) c n [pl.e]) (.mk 4 f i ea E ec (-1) (-1) c n (some ⟨g1, 0, none⟩) [pl] 1) :=
  ⟨bb, .mk he (Blk.own ePm ba [pl] (by simp [Elem.cells, ePm]) (by show 1 ≤ 9223372036854775807; decide) (Nat.zero_le _)) (by
    intro k hk
    simp only [Pm.kids, List.mem_cons, List.not_mem_nil, or_false] at hk
    rw [hk]; exact hl) hel (by show 1 ≤ 1000; decide), rfl⟩
set_option maxRecDepth 20000 in
set_option maxHeartbeats 8000000 in
theorem pljoin_any (w : World) (g : Nat) (X : Wp) (hb : Blk w g 61 X.cells) (hX : WpIn w X) (j : Nat × Nat) (h1 : j.1 < 16) (h2 : j.2 < 16) (h20 : 0 < j.2) (gl gr : Nat) (l r : Pl) (pl pr : Pm) (hl : PmAt w gl l pl) (hr : PmAt w gr r pr) (n : Int) :
    Calls Tryz.prog 36 #[.pointer (some ⟨g, 0, none⟩), jnV j, .pointer (some ⟨gl, 0, none⟩), .pointer (some ⟨gr, 0, none⟩), .int .i64 n] w fun e w' => ∃ u, e = .returned u ∧ OptAt w' u (some (Pn.join X.p.x j l r n)) ∧ Below w.heap.size w w' := by
  have HX := Lib.hid hX
  have HB := Lib.hid hb
  have HL := Lib.hid hl
  have HR := Lib.hid hr
  have hdl := hX.d.len
  clear hX hb hl hr
  go_enter Tryz.func36, Tryz.ntmps36
  go_upto_region 1 with (refine wpList_box_jn rfl (.tmp 1) rfl j rfl ?_; intro W1 hb1 hz1 hB1)
  have HB1 := Lib.hid hB1
  have HJ := Lib.hid hb1
  obtain ⟨c0, -⟩ := Blk.c2 hb1
  obtain ⟨g6, hg6⟩ : ∃ g, w.heap.size = g := ⟨_, rfl⟩
  rw [hg6] at HJ c0
  rw [hg6]
  clear hb1 hz1 hB1 hg6
  go_wp2_with fail
  refine (plsize_any W1 g X (HB.out.below HB1.out) (HX.out.below HB1.out) j.1 h1).mono ?_
  rintro e W2 ⟨rfl, hB2⟩
  have HB2 := Lib.hid (HB1.out.then hB2)
  have HJ2 := Lib.hid (HJ.out.below hB2)
  obtain ⟨sz, hsz⟩ : ∃ k, Pn.size X.p.x j.1 = k := ⟨_, rfl⟩
  have HSZ := Lib.hid hsz
  rw [hsz]
  clear hB2 hsz c0
  go_upto_region 2 with fail
  go_cut [12] from 21 to 40 (fun v wx => Hid (OptAt wx v (some (Pn.mkLoop X.p.x j l r n)) ∧ Below W2.heap.size W2 wx))
  case first =>
    have hd : Below W2.heap.size W2 W2.drew := (Below.refl _ _).drewR
    have HLD := Lib.hid (HL.out.below (HB2.out.then hd))
    have HRD := Lib.hid (HR.out.below (HB2.out.then hd))
    obtain ⟨a0, a1, a2, a3, a4, a5, a6, a7, a8⟩ := Blk.pm HLD.out.b
    obtain ⟨b0, b1, b2, b3, b4, b5, b6, b7, b8⟩ := Blk.pm HRD.out.b
    clear hd
    refine wp_region_plan (.take 0 (.take 1 (.take 2 (.take 3 (.take 4 (.take 5 (.take 6 (.take 7 (.take 8 (.take 10 (.take 11 (.take 12 (.take 13 (.take 14 (.take 15 (.take 16 (.fork (.run 9 [10, 11, 12, 13, 14, 15, 16] (.run 17 [10] (.take 18 (.run 19 [] (.take 20 .fin))))) (.run 17 [0, 1, 2, 3, 4, 5, 6, 7, 8, 10] (.run 9 [10] (.take 18 (.run 19 [] (.take 20 .fin)))))))))))))))))))))) (by kernel_rfl) (by kernel_rfl) (by kernel_rfl) (by kernel_rfl) ?_
    repeat' (first | (refine hZ _ _ ?_; clear hZ) | (refine hZ _ ?_; clear hZ) | (refine hZ ?_; clear hZ) | rw [again_nil] | rw [walk_fin] | ((first | rw [walk_take] | rw [walk_run] | rw [again_cons]); intro Z hZ; simp only [sel, List.getElem?_toArray, List.getElem?_cons_zero, List.getElem?_cons_succ]; go_wp2_with (fail)))
    rw [walk_fork]
    refine ⟨?_, ?_⟩
    · repeat' (first | (refine hZ _ _ ?_; clear hZ) | (refine hZ _ ?_; clear hZ) | (refine hZ ?_; clear hZ) | rw [again_nil] | rw [walk_fin] | ((first | rw [walk_take] | rw [walk_run] | rw [again_cons]); intro Z hZ; simp only [sel, List.getElem?_toArray, List.getElem?_cons_zero, List.getElem?_cons_succ]; go_wp2_with (fail)))
      refine (cloop_any W2.drew pl.cost sz pr.cost).mono ?_
      rintro e W3 ⟨rfl, hB3⟩
      replace a0 := cell_later hB3 a0
      replace a1 := cell_later hB3 a1
      replace a2 := cell_later hB3 a2
      replace a3 := cell_later hB3 a3
      replace a4 := cell_later hB3 a4
      replace a5 := cell_later hB3 a5
      replace a6 := cell_later hB3 a6
      replace a7 := cell_later hB3 a7
      replace a8 := cell_later hB3 a8
      replace b0 := cell_later hB3 b0
      replace b1 := cell_later hB3 b1
      replace b2 := cell_later hB3 b2
      replace b3 := cell_later hB3 b3
      replace b4 := cell_later hB3 b4
      replace b5 := cell_later hB3 b5
      replace b6 := cell_later hB3 b6
      replace b7 := cell_later hB3 b7
      replace b8 := cell_later hB3 b8
      go_wp2_with fail
      repeat' (first | (refine hZ _ _ ?_; clear hZ) | (refine hZ _ ?_; clear hZ) | (refine hZ ?_; clear hZ) | rw [again_nil] | rw [walk_fin] | ((first | rw [walk_take] | rw [walk_run] | rw [again_cons]); intro Z hZ; simp only [sel, List.getElem?_toArray, List.getElem?_cons_zero, List.getElem?_cons_succ]; go_wp2_with (fail)))
      have HB3 : Hid (Below W2.heap.size W2 W3) := (Below.refl W2.heap.size W2).drewR.trans hB3
      have HLI := Lib.hid (HLD.out.i.later hB3)
      have HRI := Lib.hid (HRD.out.i.later hB3)
      clear hB3 a0 a1 a2 a3 a4 a5 a6 a7 a8 b0 b1 b2 b3 b4 b5 b6 b7 b8
      generalize hW5 : ((World.alloc W3 (.cells _ _)).alloc (.cells _ _)) = W5
      obtain ⟨ba5, bb5, hz5, hB5⟩ := fresh2 hW5
      clear hW5
      have HOA := Lib.hid (loop_at (HLI.out.later hB5) (HRI.out.later hB5) ba5 bb5)
      have HB5 := Lib.hid (HB3.out.then hB5)
      clear ba5 bb5 hz5 hB5
      go_wp2_with fail
      go_meet
      case rel =>
        refine ⟨?_, HB5.out⟩
        have e : Pn.mkLoop X.p.x j l r n = .mk 3 (-1) (-1) [] (-1) (-1) (Pn.loop pl.cost sz pr.cost) n [pl.e, pr.e] := by unfold Pn.mkLoop; rw [HSZ.out, ← HL.out.cost, ← HR.out.cost, HL.out.e, HR.out.e]
        rw [e]
        exact HOA.out
    · have hBL : Below W2.drew.heap.size W2.drew (W2.alloc (.cells #[.int .i64 pl.op, .int .i64 pl.fr, .int .i64 pl.ix, .slice pl.ea pl.eq.length pl.ec, .int .i64 pl.low, .int .i64 pl.high, .int .i64 pl.cost, .int .i64 pl.rows, .slice pl.ka pl.kids.length pl.kc, .int .i64 pr.op, .int .i64 pr.fr, .int .i64 pr.ix, .slice pr.ea pr.eq.length pr.ec, .int .i64 pr.low, .int .i64 pr.high, .int .i64 pr.cost, .int .i64 pr.rows, .slice pr.ka pr.kids.length pr.kc] 44)).drew := by show Below W2.drew.heap.size W2.drew (W2.drew.alloc _); exact Below.alloc1 _ _
      have b18 : Blk (W2.alloc (.cells #[.int .i64 pl.op, .int .i64 pl.fr, .int .i64 pl.ix, .slice pl.ea pl.eq.length pl.ec, .int .i64 pl.low, .int .i64 pl.high, .int .i64 pl.cost, .int .i64 pl.rows, .slice pl.ka pl.kids.length pl.kc, .int .i64 pr.op, .int .i64 pr.fr, .int .i64 pr.ix, .slice pr.ea pr.eq.length pr.ec, .int .i64 pr.low, .int .i64 pr.high, .int .i64 pr.cost, .int .i64 pr.rows, .slice pr.ka pr.kids.length pr.kc] 44)).drew W2.heap.size 44 (pl.cells ++ pr.cells) := (Blk.new W2 _ _).drew
      have a6' := cell_later hBL a6
      have b6' := cell_later hBL b6
      have HBL := Lib.hid hBL
      have HB18 := Lib.hid b18
      clear hBL b18
      repeat' (first | (refine hZ _ _ ?_; clear hZ) | (refine hZ _ ?_; clear hZ) | (refine hZ ?_; clear hZ) | rw [again_nil] | rw [walk_fin] | ((first | rw [walk_take] | rw [walk_run] | rw [again_cons]); intro Z hZ; simp only [sel, List.getElem?_toArray, List.getElem?_cons_zero, List.getElem?_cons_succ]; go_wp2_with (fail)))
      refine (cloop_any _ pl.cost sz pr.cost).mono ?_
      rintro e W3 ⟨rfl, hB3⟩
      have HB3 : Hid (Below W2.heap.size W2 W3) := (Below.refl W2.heap.size W2).drewR.trans ((HBL.out.then hB3).mono (Nat.le_refl _))
      have HLI := Lib.hid ((HLD.out.i.later HBL.out).later hB3)
      have HRI := Lib.hid ((HRD.out.i.later HBL.out).later hB3)
      have HB3B := Lib.hid (HB18.out.below hB3)
      clear hB3 a0 a1 a2 a3 a4 a5 a6 a7 a8 b0 b1 b2 b3 b4 b5 b6 b7 b8 a6' b6' HBL HB18
      go_wp2_with fail
      repeat' (first | (refine hZ _ _ ?_; clear hZ) | (refine hZ _ ?_; clear hZ) | (refine hZ ?_; clear hZ) | rw [again_nil] | rw [walk_fin] | ((first | rw [walk_take] | rw [walk_run] | rw [again_cons]); intro Z hZ; simp only [sel, List.getElem?_toArray, List.getElem?_cons_zero, List.getElem?_cons_succ]; go_wp2_with (fail)))
      generalize hW5 : World.alloc W3 (.cells _ _) = W5
      obtain ⟨ba5, hz5, hB5⟩ := fresh1 hW5
      clear hW5
      have HOA := Lib.hid (loop_at (HLI.out.later hB5) (HRI.out.later hB5) (HB3B.out.below hB5) ba5)
      have HB5 := Lib.hid (HB3.out.then hB5)
      clear ba5 hz5 hB5
      go_wp2_with fail
      go_meet
      case rel =>
        refine ⟨?_, HB5.out⟩
        have e : Pn.mkLoop X.p.x j l r n = .mk 3 (-1) (-1) [] (-1) (-1) (Pn.loop pl.cost sz pr.cost) n [pl.e, pr.e] := by unfold Pn.mkLoop; rw [HSZ.out, ← HL.out.cost, ← HR.out.cost, HL.out.e, HR.out.e]
        rw [e]
        exact HOA.out
  case rest =>
    have HO3 := Lib.hid hcut.out.1
    have HB3 := Lib.hid hcut.out.2
    clear hcut
    have HBW := Lib.hid (HB2.out.then HB3.out)
    obtain ⟨-, c1, -⟩ := Blk.c2 (HJ2.out.below HB3.out)
    obtain ⟨c9, -, -, -⟩ := Blk.wt (HB.out.below HBW.out)
    have HONE := Lib.hid (Pn.one_ones j.2 h2 h20)
    obtain ⟨D, hD⟩ : ∃ D, Pn.join X.p.x j l r n = D := ⟨_, rfl⟩
    have HD : Hid (Pn.joinF X.p.x j l n 0 (X.p.x.defs.drop 0) (Pn.mkLoop X.p.x j l r n) = D) := hD
    have HFIN : Hid (Pn.join X.p.x j l r n = D) := hD
    clear hD
    go_wp2_with fail
    refine (mone_any wc j.2 h2).mono ?_
    rintro e w4 ⟨rfl, rfl⟩
    generalize Pn.zeros j.2 = f at HONE ⊢
    obtain ⟨ok, hok⟩ : ∃ ok, (Pn.ones j.2 == 1) = ok := ⟨_, rfl⟩
    have HOK : Hid (Pn.one j.2 = if ok = true then some f else none) := by
      show _ = _
      rw [HONE.out, ← hok]
      by_cases h : Pn.ones j.2 = 1
      · rw [if_pos h, if_pos (by rw [h]; rfl)]
      · rw [if_neg h, if_neg (by simpa using h)]
    rw [hok]
    clear hok HONE
    go_upto_region 5 with fail
    clear c1 c9
    go_loopw [12, 52] (fun v iv wr => ∃ (i : Nat), i ≤ X.p.x.defs.length ∧ iv = .int .i64 (i : Int) ∧ Hid (∃ o, Pn.joinF X.p.x j l n i (X.p.x.defs.drop i) o = D ∧ OptAt wr v (some o) ∧ Below wc.heap.size wc wr)) (fun _ iv _ => X.p.x.defs.length - (intOf iv).toNat)
    case atStart => exact ⟨0, Nat.zero_le _, by go_num, _, HD.out, HO3.out, Below.refl _ _⟩
    case round =>
      obtain ⟨i, hi, rfl, HJJ⟩ := hrel
      obtain ⟨o, hd, ho, hbw⟩ := HJJ.out
      have HE := Lib.hid hd
      have HO := Lib.hid ho
      have HBC := Lib.hid hbw
      have HBV := Lib.hid (HBW.out.then hbw)
      clear HJJ hd ho hbw
      by_cases hlt : i < X.p.x.defs.length
      · have hii : (i : Int) < (X.p.x.defs.length : Int) := by omega
        obtain ⟨d, hd0⟩ : ∃ d, X.p.x.defs[i] = d := ⟨_, rfl⟩
        have HD0 := Lib.hid hd0
        have HX2 : Hid (Pn.joinF X.p.x j l n (i + 1) (X.p.x.defs.drop (i + 1)) (match (if ok = true then some f else none) with
          | some f => if Pn.fits X.p.x f i && !(Pn.eqN X.p.x f d j.1).isEmpty then Pn.lessP o (Pn.mkLookup X.p.x j.1 f i d l n) else o
          | none => o) = D) := by show _ = _; rw [← HE.out, Pn.joinF_drop _ _ _ _ _ _ hlt, hd0, HOK.out]
        clear hd0
        cases ok with
        | false =>
          have HN : Hid (Pn.joinF X.p.x j l n (i + 1) (X.p.x.defs.drop (i + 1)) o = D) := HX2.out
          go_upto_region 7 with fail
          refine wp_region_plan (.take 0 (.take 1 (.take 2 (.take 3 (.take 4 (.take 5 (.take 6 (.take 7 (.take 8 (.take 9 (.take 10 (.take 11 (.take 12 (.run 13 [] (.take 14 (.take 15 .fin)))))))))))))))) (by kernel_rfl) (by kernel_rfl) (by kernel_rfl) (by kernel_rfl) ?_
          repeat' (first | (refine hZ _ _ ?_; clear hZ) | (refine hZ _ ?_; clear hZ) | (refine hZ ?_; clear hZ) | rw [again_nil] | rw [walk_fin] | ((first | rw [walk_take] | rw [walk_run] | rw [again_cons]); intro Z hZ; simp only [sel, List.getElem?_toArray, List.getElem?_cons_zero, List.getElem?_cons_succ]; go_wp2_with (fail)))
          go_wp2_with fail
          go_roundw
          case rel => exact ⟨i + 1, by omega, by go_num, _, HN.out, HO.out.below (Below.refl _ _).drewR, HBC.out.drewR⟩
          case measure => simp [intOf]; omega
        | true =>
          have HX3 : Hid (Pn.joinF X.p.x j l n (i + 1) (X.p.x.defs.drop (i + 1)) (if Pn.fits X.p.x f i && !(Pn.eqN X.p.x f d j.1).isEmpty then Pn.lessP o (Pn.mkLookup X.p.x j.1 f i d l n) else o) = D) := HX2.out
          go_upto_region 7 with fail
          have HBD : Hid (Below w.heap.size w wr.drew) := HBV.out.drewR
          obtain ⟨c9, -, -, -⟩ := Blk.wt (HB.out.below HBD.out)
          have hbd : Blk wr.drew g 61 (X.p.cells ++ (.slice X.da X.p.x.defs.length X.dc :: X.tail)) := HB.out.below HBD.out
          obtain ⟨u0, u1, u2, u3, u4, u5, u6, u7, u8⟩ := Blk.qp9 hbd
          have HFI := Lib.hid (plfits_any wr.drew X.p (HX.out.q.below HBD.out) HX.out.s X.da X.dc (HX.out.d.below HBD.out) f i)
          clear hbd
          refine wp_region_plan (.take 0 (.take 1 (.take 2 (.take 3 (.take 4 (.take 5 (.take 6 (.take 7 (.take 8 (.take 9 (.take 10 (.take 11 (.take 12 (.run 13 [] (.take 14 (.take 15 .fin)))))))))))))))) (by kernel_rfl) (by kernel_rfl) (by kernel_rfl) (by kernel_rfl) ?_
          repeat' (first | (refine hZ _ _ ?_; clear hZ) | (refine hZ _ ?_; clear hZ) | (refine hZ ?_; clear hZ) | rw [again_nil] | rw [walk_fin] | ((first | rw [walk_take] | rw [walk_run] | rw [again_cons]); intro Z hZ; simp only [sel, List.getElem?_toArray, List.getElem?_cons_zero, List.getElem?_cons_succ]; go_wp2_with (fail)))
          refine (show Calls _ _ #[X.p.v, _, _, _] _ _ from HFI.out).mono ?_
          rintro e W5 ⟨rfl, hB5⟩
          have HO5 := Lib.hid (HO.out.below ((Below.refl wr.heap.size wr).drewR.trans hB5))
          have HBC5 : Hid (Below wc.heap.size wc W5) := HBC.out.then ((Below.refl wr.heap.size wr).drewR.trans hB5)
          have HBV5 := Lib.hid (HBW.out.then HBC5.out)
          clear hB5 u0 u1 u2 u3 u4 u5 u6 u7 u8 c9 HFI
          cases hfit : Pn.fits X.p.x f i with
          | false =>
            have HN : Hid (Pn.joinF X.p.x j l n (i + 1) (X.p.x.defs.drop (i + 1)) o = D) := by show _ = _; rw [← HX3.out, hfit]; rfl
            clear hfit
            go_wp2_with fail
            repeat' (first | (refine hZ _ _ ?_; clear hZ) | (refine hZ _ ?_; clear hZ) | (refine hZ ?_; clear hZ) | rw [again_nil] | rw [walk_fin] | ((first | rw [walk_take] | rw [walk_run] | rw [again_cons]); intro Z hZ; simp only [sel, List.getElem?_toArray, List.getElem?_cons_zero, List.getElem?_cons_succ]; go_wp2_with (fail)))
            go_wp2_with fail
            go_roundw
            case rel => exact ⟨i + 1, by omega, by go_num, _, HN.out, HO5.out, HBC5.out⟩
            case measure => simp [intOf]; omega
          | true =>
            have HX4 : Hid (Pn.joinF X.p.x j l n (i + 1) (X.p.x.defs.drop (i + 1)) (if !(Pn.eqN X.p.x f d j.1).isEmpty then Pn.lessP o (Pn.mkLookup X.p.x j.1 f i d l n) else o) = D) := by show _ = _; rw [← HX3.out, hfit, Bool.true_and]
            have HFD : Hid (f < X.p.x.T.length ∧ Pn.fitsD X.p.x f d = true) := by
              unfold Pn.fits at hfit
              rw [Bool.and_eq_true, decide_eq_true_eq] at hfit
              refine ⟨by omega, ?_⟩
              rw [← hfit.2, Int.toNat_natCast, Int.toNat_natCast, ← HD0.out]
              simp [List.getD, hlt]
            obtain ⟨e0, -⟩ := Blk.c2 ((HJ2.out.below HB3.out).below HBC5.out)
            clear hfit
            go_wp2_with fail
            repeat' (first | (refine hZ _ _ ?_; clear hZ) | (refine hZ _ ?_; clear hZ) | (refine hZ ?_; clear hZ) | rw [again_nil] | rw [walk_fin] | ((first | rw [walk_take] | rw [walk_run] | rw [again_cons]); intro Z hZ; simp only [sel, List.getElem?_toArray, List.getElem?_cons_zero, List.getElem?_cons_succ]; go_wp2_with (fail)))
            go_wp2_with fail
            refine (pleq_any W5 g X (HB.out.below HBV5.out) (HX.out.below HBV5.out) f i HFD.out.1 hlt (by rw [HD0.out]; exact HFD.out.2) j.1 h1).mono ?_
            rintro e W6 ⟨A1, c1, rfl, hO1, hB6⟩
            have HO6 := Lib.hid (HO5.out.below hB6)
            have HBC6 := Lib.hid (HBC5.out.then hB6)
            have HBV6 := Lib.hid (HBW.out.then HBC6.out)
            obtain ⟨E, hE⟩ : ∃ E, Pn.eqN X.p.x f X.p.x.defs[i] j.1 = E := ⟨_, rfl⟩
            rw [hE] at hO1 ⊢
            rw [HD0.out] at hE
            have HEE := Lib.hid hE
            have hel : E.length ≤ 1000 := by
              rw [← hE]
              exact Nat.le_trans (Pn.eqN_len _ _ _ _) (HX.out.d.cl d (by rw [← HD0.out]; exact List.getElem_mem hlt))
            have HEL : Hid (∀ i ∈ E, 0 ≤ i ∧ i < (X.p.x.wh.length : Int)) := by show ∀ i ∈ E, _; rw [← hE]; exact Pn.eqN_lt _ _ _ _
            have HO1 : Hid (EOwn eInt W6 0 A1 c1 E) := hO1.mono (Nat.zero_le _)
            have HX5 : Hid (Pn.joinF X.p.x j l n (i + 1) (X.p.x.defs.drop (i + 1)) (if !E.isEmpty then Pn.lessP o (Pn.mkLookup X.p.x j.1 f i d l n) else o) = D) := by show _ = _; rw [← HX4.out, hE]
            clear hO1 hB6 hE e0 HX4
            obtain ⟨o9, ho9⟩ : ∃ o9, (if !E.isEmpty then Pn.lessP o (Pn.mkLookup X.p.x j.1 f i d l n) else o) = o9 := ⟨_, rfl⟩
            have HO9E := Lib.hid ho9
            rw [ho9] at HX5
            clear ho9
            by_cases hE0 : 0 < E.length
            · have HOL : Hid (Pn.lessP o (Pn.mkLookup X.p.x j.1 f i d l n) = o9) := by
                show _ = _
                rw [← HO9E.out]
                cases hE' : E with
                | nil => rw [hE'] at hE0; simp at hE0
                | cons a b => rfl
              have hEi : (0 : Int) < (E.length : Int) := by omega
              go_upto_region 10 with fail
              have hd : Below W6.heap.size W6 W6.drew := (Below.refl _ _).drewR
              have HLD := Lib.hid (HL.out.below (HBV6.out.then hd))
              have HBVD := Lib.hid (HBV6.out.then hd)
              have HOD := Lib.hid (HO6.out.below hd)
              have HOE := Lib.hid (HO1.out.below hd)
              have HBS : Hid (Below W6.drew.heap.size W6.drew W6.drew) := Below.refl _ _
              obtain ⟨a0, a1, a2, a3, a4, a5, a6, a7, a8⟩ := Blk.pm HLD.out.b
              clear hd
              refine wp_region_plan (.take 0 (.take 1 (.take 2 (.take 3 (.take 4 (.take 5 (.take 6 (.take 7 (.take 8 (.take 9 (.take 10 (.take 11 (.take 14 (.take 15 (.take 16 (.take 17 (.fork (.run 12 [0, 1, 2, 3, 4, 5, 6, 7, 8, 14, 15, 16, 17] (.fork (.run 13 [0, 1, 2, 3, 14, 15, 16, 17] (.run 18 [0, 1, 2, 3, 14] (.take 19 (.run 20 [0] (.run 21 [] (.take 22 .fin)))))) (.run 18 [0, 1, 2, 3, 4, 5, 6, 7, 8, 14] (.run 13 [0, 1, 2, 3, 14] (.take 19 (.run 20 [0] (.run 21 [] (.take 22 .fin)))))))) (.run 18 [0, 1, 2, 3, 4, 5, 6, 7, 8, 9, 10, 11, 14] (.run 12 [0, 1, 2, 3, 4, 5, 6, 7, 8, 14] (.run 13 [0, 1, 2, 3, 14] (.take 19 (.run 20 [0] (.run 21 [] (.take 22 .fin)))))))))))))))))))))))) (by kernel_rfl) (by kernel_rfl) (by kernel_rfl) (by kernel_rfl) ?_
              repeat' (first | (refine hZ _ _ ?_; clear hZ) | (refine hZ _ ?_; clear hZ) | (refine hZ ?_; clear hZ) | rw [again_nil] | rw [walk_fin] | ((first | rw [walk_take] | rw [walk_run] | rw [again_cons]); intro Z hZ; simp only [sel, List.getElem?_toArray, List.getElem?_cons_zero, List.getElem?_cons_succ]; go_wp2_with (fail)))
              rw [walk_fork]
              refine ⟨?_, ?_⟩
              · -- found, called in world W6.drew, since W6.drew: HBS
                repeat' (first | (refine hZ _ _ ?_; clear hZ) | (refine hZ _ ?_; clear hZ) | (refine hZ ?_; clear hZ) | rw [again_nil] | rw [walk_fin] | ((first | rw [walk_take] | rw [walk_run] | rw [again_cons]); intro Z hZ; simp only [sel, List.getElem?_toArray, List.getElem?_cons_zero, List.getElem?_cons_succ]; go_wp2_with (fail)))
                refine (plfound_any (W6.drew) g X (HB.out.below (HBVD.out.then HBS.out)) (HX.out.below (HBVD.out.then HBS.out)) f HFD.out.1 A1 c1 E (HOE.out.below HBS.out).row (by omega) (fun k hk => (HEL.out k hk).2)).mono ?_
                rintro e W7 ⟨rfl, hB7⟩
                have HB7 := Lib.hid (HBS.out.then hB7)
                obtain ⟨fn, hfn⟩ : ∃ k, Pn.found X.p.x f E = k := ⟨_, rfl⟩
                have HFN := Lib.hid hfn
                rw [hfn]
                clear hfn hB7 a0 a1 a2 a3 a4 a5 a6 a7 a8
                -- the cells of l in world W7, since W6.drew: HB7
                obtain ⟨a0, a1, a2, a3, a4, a5, a6, a7, a8⟩ := Blk.pm (HLD.out.b.below HB7.out)
                go_wp2_with fail
                repeat' (first | (refine hZ _ _ ?_; clear hZ) | (refine hZ _ ?_; clear hZ) | (refine hZ ?_; clear hZ) | rw [again_nil] | rw [walk_fin] | ((first | rw [walk_take] | rw [walk_run] | rw [again_cons]); intro Z hZ; simp only [sel, List.getElem?_toArray, List.getElem?_cons_zero, List.getElem?_cons_succ]; go_wp2_with (fail)))
                rw [walk_fork]
                refine ⟨?_, ?_⟩
                · repeat' (first | (refine hZ _ _ ?_; clear hZ) | (refine hZ _ ?_; clear hZ) | (refine hZ ?_; clear hZ) | rw [again_nil] | rw [walk_fin] | ((first | rw [walk_take] | rw [walk_run] | rw [again_cons]); intro Z hZ; simp only [sel, List.getElem?_toArray, List.getElem?_cons_zero, List.getElem?_cons_succ]; go_wp2_with (fail)))
                  refine (clookup_any (W7) pl.cost sz fn).mono ?_
                  rintro e W8 ⟨rfl, hB8⟩
                  have HB8 := Lib.hid (HB7.out.then hB8)
                  obtain ⟨lk, hlk⟩ : ∃ k, Pn.lookup pl.cost sz fn = k := ⟨_, rfl⟩
                  have HLK := Lib.hid hlk
                  rw [hlk]
                  clear hlk hB8 a0 a1 a2 a3 a4 a5 a6 a7 a8
                  -- the cells of l in world W8, since W6.drew: HB8
                  obtain ⟨a0, a1, a2, a3, a4, a5, a6, a7, a8⟩ := Blk.pm (HLD.out.b.below HB8.out)
                  go_wp2_with fail
                  repeat' (first | (refine hZ _ _ ?_; clear hZ) | (refine hZ _ ?_; clear hZ) | (refine hZ ?_; clear hZ) | rw [again_nil] | rw [walk_fin] | ((first | rw [walk_take] | rw [walk_run] | rw [again_cons]); intro Z hZ; simp only [sel, List.getElem?_toArray, List.getElem?_cons_zero, List.getElem?_cons_succ]; go_wp2_with (fail)))
                  generalize hW9 : ((World.alloc W8 (.cells _ _)).alloc (.cells _ _)) = W9
                  obtain ⟨ba9, bb9, hz9, hB9⟩ := fresh2 hW9
                  clear hW9
                  have HPL := Lib.hid (lookup_at ((HLD.out.i.later HB8.out).later hB9) ((HOE.out.below HB8.out).below hB9) hel ba9 bb9)
                  have HB9 := Lib.hid (HB8.out.then hB9)
                  clear ba9 bb9 hz9 hB9
                  have HMK : Hid (Pn.mkLookup X.p.x j.1 f i d l n = .mk 4 f i E (-1) (-1) lk n [pl.e]) := by show _ = _; unfold Pn.mkLookup; rw [HEE.out, HSZ.out, HFN.out, ← HL.out.cost, HLK.out, HL.out.e]
                  refine (plless_any W9 _ (some o) (HOD.out.below HB9.out) _ _ _ HPL.out).mono ?_
                  rintro e W10 ⟨u, rfl, hu, hB10⟩
                  have HU := Lib.hid (hu.below hB10)
                  have HB10 : Hid (Below W6.heap.size W6 W10) := (Below.refl W6.heap.size W6).drewR.trans (HB9.out.then hB10)
                  clear hu hB10
                  go_wp2_with fail
                  repeat' (first | (refine hZ _ _ ?_; clear hZ) | (refine hZ _ ?_; clear hZ) | (refine hZ ?_; clear hZ) | rw [again_nil] | rw [walk_fin] | ((first | rw [walk_take] | rw [walk_run] | rw [again_cons]); intro Z hZ; simp only [sel, List.getElem?_toArray, List.getElem?_cons_zero, List.getElem?_cons_succ]; go_wp2_with (fail)))
                  go_wp2_with fail
                  have HU9 : Hid (OptAt W10 u (some o9)) := by rw [← HOL.out, HMK.out]; exact HU.out
                  have HBC10 := Lib.hid (HBC6.out.then HB10.out)
                  go_roundw
                  case rel => exact ⟨i + 1, by omega, by go_num, _, HX5.out, HU9.out, HBC10.out⟩
                  case measure => simp [intOf]; omega
                · have hBL : Below W7.heap.size W7 (W7.alloc (.cells #[.int .i64 pl.op, .int .i64 pl.fr, .int .i64 pl.ix, .slice pl.ea pl.eq.length pl.ec, .int .i64 pl.low, .int .i64 pl.high, .int .i64 pl.cost, .int .i64 pl.rows, .slice pl.ka pl.kids.length pl.kc] 44)) := Below.alloc1 _ _
                  have b9 : Blk (W7.alloc (.cells #[.int .i64 pl.op, .int .i64 pl.fr, .int .i64 pl.ix, .slice pl.ea pl.eq.length pl.ec, .int .i64 pl.low, .int .i64 pl.high, .int .i64 pl.cost, .int .i64 pl.rows, .slice pl.ka pl.kids.length pl.kc] 44)) W7.heap.size 44 pl.cells := Blk.new W7 _ _
                  have a6' := cell_later hBL a6
                  have HBL := Lib.hid (HB7.out.then hBL)
                  have HB9X := Lib.hid b9
                  clear hBL b9
                  repeat' (first | (refine hZ _ _ ?_; clear hZ) | (refine hZ _ ?_; clear hZ) | (refine hZ ?_; clear hZ) | rw [again_nil] | rw [walk_fin] | ((first | rw [walk_take] | rw [walk_run] | rw [again_cons]); intro Z hZ; simp only [sel, List.getElem?_toArray, List.getElem?_cons_zero, List.getElem?_cons_succ]; go_wp2_with (fail)))
                  refine (clookup_any _ pl.cost sz fn).mono ?_
                  rintro e W8 ⟨rfl, hB8'⟩
                  obtain ⟨lk, hlk⟩ : ∃ k, Pn.lookup pl.cost sz fn = k := ⟨_, rfl⟩
                  have HLK := Lib.hid hlk
                  rw [hlk]
                  clear hlk a0 a1 a2 a3 a4 a5 a6 a7 a8
                  have HPB := Lib.hid (HB9X.out.below hB8')
                  have HB8 := Lib.hid (HBL.out.then hB8')
                  clear hB8' a6' HB9X HBL
                  go_wp2_with fail
                  repeat' (first | (refine hZ _ _ ?_; clear hZ) | (refine hZ _ ?_; clear hZ) | (refine hZ ?_; clear hZ) | rw [again_nil] | rw [walk_fin] | ((first | rw [walk_take] | rw [walk_run] | rw [again_cons]); intro Z hZ; simp only [sel, List.getElem?_toArray, List.getElem?_cons_zero, List.getElem?_cons_succ]; go_wp2_with (fail)))
                  generalize hW9 : World.alloc W8 (.cells _ _) = W9
                  obtain ⟨ba9, hz9, hB9⟩ := fresh1 hW9
                  clear hW9
                  have HPL := Lib.hid (lookup_at ((HLD.out.i.later HB8.out).later hB9) ((HOE.out.below HB8.out).below hB9) hel (HPB.out.below hB9) ba9)
                  have HB9 := Lib.hid (HB8.out.then hB9)
                  clear ba9 hz9 hB9
                  have HMK : Hid (Pn.mkLookup X.p.x j.1 f i d l n = .mk 4 f i E (-1) (-1) lk n [pl.e]) := by show _ = _; unfold Pn.mkLookup; rw [HEE.out, HSZ.out, HFN.out, ← HL.out.cost, HLK.out, HL.out.e]
                  refine (plless_any W9 _ (some o) (HOD.out.below HB9.out) _ _ _ HPL.out).mono ?_
                  rintro e W10 ⟨u, rfl, hu, hB10⟩
                  have HU := Lib.hid (hu.below hB10)
                  have HB10 : Hid (Below W6.heap.size W6 W10) := (Below.refl W6.heap.size W6).drewR.trans (HB9.out.then hB10)
                  clear hu hB10
                  go_wp2_with fail
                  repeat' (first | (refine hZ _ _ ?_; clear hZ) | (refine hZ _ ?_; clear hZ) | (refine hZ ?_; clear hZ) | rw [again_nil] | rw [walk_fin] | ((first | rw [walk_take] | rw [walk_run] | rw [again_cons]); intro Z hZ; simp only [sel, List.getElem?_toArray, List.getElem?_cons_zero, List.getElem?_cons_succ]; go_wp2_with (fail)))
                  go_wp2_with fail
                  have HU9 : Hid (OptAt W10 u (some o9)) := by rw [← HOL.out, HMK.out]; exact HU.out
                  have HBC10 := Lib.hid (HBC6.out.then HB10.out)
                  go_roundw
                  case rel => exact ⟨i + 1, by omega, by go_num, _, HX5.out, HU9.out, HBC10.out⟩
                  case measure => simp [intOf]; omega
              · have hBL : Below W6.drew.heap.size W6.drew (W6.alloc (.cells #[.int .i64 pl.op, .int .i64 pl.fr, .int .i64 pl.ix, .slice pl.ea pl.eq.length pl.ec, .int .i64 pl.low, .int .i64 pl.high, .int .i64 pl.cost, .int .i64 pl.rows, .slice pl.ka pl.kids.length pl.kc] 44)).drew := by show Below W6.drew.heap.size W6.drew (W6.drew.alloc _); exact Below.alloc1 _ _
                have b9 : Blk (W6.alloc (.cells #[.int .i64 pl.op, .int .i64 pl.fr, .int .i64 pl.ix, .slice pl.ea pl.eq.length pl.ec, .int .i64 pl.low, .int .i64 pl.high, .int .i64 pl.cost, .int .i64 pl.rows, .slice pl.ka pl.kids.length pl.kc] 44)).drew W6.heap.size 44 pl.cells := (Blk.new W6 _ _).drew
                have a6' := cell_later hBL a6
                have HBL := Lib.hid hBL
                have HB9X := Lib.hid b9
                clear hBL b9
                repeat' (first | (refine hZ _ _ ?_; clear hZ) | (refine hZ _ ?_; clear hZ) | (refine hZ ?_; clear hZ) | rw [again_nil] | rw [walk_fin] | ((first | rw [walk_take] | rw [walk_run] | rw [again_cons]); intro Z hZ; simp only [sel, List.getElem?_toArray, List.getElem?_cons_zero, List.getElem?_cons_succ]; go_wp2_with (fail)))
                refine (plfound_any _ g X (HB.out.below (HBVD.out.then HBL.out)) (HX.out.below (HBVD.out.then HBL.out)) f HFD.out.1 A1 c1 E (HOE.out.below HBL.out).row (by omega) (fun k hk => (HEL.out k hk).2)).mono ?_
                rintro e W7 ⟨rfl, hB7'⟩
                have HB7 := Lib.hid (HBL.out.then hB7')
                obtain ⟨fn, hfn⟩ : ∃ k, Pn.found X.p.x f E = k := ⟨_, rfl⟩
                have HFN := Lib.hid hfn
                rw [hfn]
                clear hfn a0 a1 a2 a3 a4 a5 a6 a7 a8 a6'
                -- the cells of l in world W7, since W6.drew: HB7
                obtain ⟨a0, a1, a2, a3, a4, a5, a6, a7, a8⟩ := Blk.pm (HLD.out.b.below HB7.out)
                go_wp2_with fail
                repeat' (first | (refine hZ _ _ ?_; clear hZ) | (refine hZ _ ?_; clear hZ) | (refine hZ ?_; clear hZ) | rw [again_nil] | rw [walk_fin] | ((first | rw [walk_take] | rw [walk_run] | rw [again_cons]); intro Z hZ; simp only [sel, List.getElem?_toArray, List.getElem?_cons_zero, List.getElem?_cons_succ]; go_wp2_with (fail)))
                refine (clookup_any (W7) pl.cost sz fn).mono ?_
                rintro e W8 ⟨rfl, hB8'⟩
                obtain ⟨lk, hlk⟩ : ∃ k, Pn.lookup pl.cost sz fn = k := ⟨_, rfl⟩
                have HLK := Lib.hid hlk
                rw [hlk]
                clear hlk a0 a1 a2 a3 a4 a5 a6 a7 a8
                have HPB := Lib.hid ((HB9X.out.below hB7').below hB8')
                have HB8 := Lib.hid (HB7.out.then hB8')
                clear hB7' hB8' HB9X HBL
                go_wp2_with fail
                repeat' (first | (refine hZ _ _ ?_; clear hZ) | (refine hZ _ ?_; clear hZ) | (refine hZ ?_; clear hZ) | rw [again_nil] | rw [walk_fin] | ((first | rw [walk_take] | rw [walk_run] | rw [again_cons]); intro Z hZ; simp only [sel, List.getElem?_toArray, List.getElem?_cons_zero, List.getElem?_cons_succ]; go_wp2_with (fail)))
                generalize hW9 : World.alloc W8 (.cells _ _) = W9
                obtain ⟨ba9, hz9, hB9⟩ := fresh1 hW9
                clear hW9
                have HPL := Lib.hid (lookup_at ((HLD.out.i.later HB8.out).later hB9) ((HOE.out.below HB8.out).below hB9) hel (HPB.out.below hB9) ba9)
                have HB9 := Lib.hid (HB8.out.then hB9)
                clear ba9 hz9 hB9
                have HMK : Hid (Pn.mkLookup X.p.x j.1 f i d l n = .mk 4 f i E (-1) (-1) lk n [pl.e]) := by show _ = _; unfold Pn.mkLookup; rw [HEE.out, HSZ.out, HFN.out, ← HL.out.cost, HLK.out, HL.out.e]
                refine (plless_any W9 _ (some o) (HOD.out.below HB9.out) _ _ _ HPL.out).mono ?_
                rintro e W10 ⟨u, rfl, hu, hB10⟩
                have HU := Lib.hid (hu.below hB10)
                have HB10 : Hid (Below W6.heap.size W6 W10) := (Below.refl W6.heap.size W6).drewR.trans (HB9.out.then hB10)
                clear hu hB10
                go_wp2_with fail
                repeat' (first | (refine hZ _ _ ?_; clear hZ) | (refine hZ _ ?_; clear hZ) | (refine hZ ?_; clear hZ) | rw [again_nil] | rw [walk_fin] | ((first | rw [walk_take] | rw [walk_run] | rw [again_cons]); intro Z hZ; simp only [sel, List.getElem?_toArray, List.getElem?_cons_zero, List.getElem?_cons_succ]; go_wp2_with (fail)))
                go_wp2_with fail
                have HU9 : Hid (OptAt W10 u (some o9)) := by rw [← HOL.out, HMK.out]; exact HU.out
                have HBC10 := Lib.hid (HBC6.out.then HB10.out)
                go_roundw
                case rel => exact ⟨i + 1, by omega, by go_num, _, HX5.out, HU9.out, HBC10.out⟩
                case measure => simp [intOf]; omega
            · have hEi : ¬ (0 : Int) < (E.length : Int) := by omega
              have HOL : Hid (o = o9) := by
                show _ = _
                rw [← HO9E.out, List.length_eq_zero_iff.1 (show E.length = 0 by omega)]
                rfl
              go_wp2_with fail
              have HO6' := Lib.hid HO6.out
              rw [HOL.out] at HO6'
              go_roundw
              case rel => exact ⟨i + 1, by omega, by go_num, _, HX5.out, HO6'.out, HBC6.out⟩
              case measure => simp [intOf]; omega
      · have hii : ¬ (i : Int) < (X.p.x.defs.length : Int) := by omega
        have HF : Hid (o = D) := by show _ = _; rw [← HE.out, List.drop_eq_nil_of_le (by omega)]; rfl
        go_wp2_with fail
        go_ret
        exact ⟨_, rfl, by rw [HFIN.out, ← HF.out]; exact HO.out, HBV.out⟩
end Go.Proofs.YtjdffhonljhpcaaGreat
end

section
/-
  The contracts of commute, associate and explore.
-/
namespace Go.Proofs.YtjdffhonljhpcaaGreat
set_option linter.unusedSimpArgs false
set_option linter.unusedVariables false
open Go.RowKit Go.Maps

set_option maxRecDepth 20000 in
theorem mcomm_any (w : World) (B gm : Nat) (F : Nat → Option Gb) (m : Pn.Mm) (hM : MemoIs w B gm F m) (j : Nat × Nat) (ha : (Pn.mget m j.1).isSome) (hb : (Pn.mget m j.2).isSome) :
    Calls Tryz.prog 29 #[.map (some gm), jnV j] w (RetMm w B gm (Pn.madd m j.2 j.1).1 (Pn.madd m j.2 j.1).2) := by
  have HM := Lib.hid hM
  have HA := Lib.hid ha
  have HB := Lib.hid hb
  clear hM ha hb
  go_enter Tryz.func29, Tryz.ntmps29
  go_upto_region 1 with (refine wpList_box_jn rfl (.tmp 1) rfl j rfl ?_; intro W1 hb1 hz1 hB1)
  have HB1 := Lib.hid hB1
  obtain ⟨c0, c1, -⟩ := Blk.c2 hb1
  clear hB1 hz1 hb1
  go_wp2_with fail
  refine (madd_any W1 B gm F m (HM.out.below HB1.out) j.2 j.1 HB.out HA.out).mono ?_
  rintro e W2 ⟨rfl, hF, hB2, hK2⟩
  have HF := Lib.hid hF
  have HB2 : Hid (Below B w W2) := (HB1.out.mono HM.out.size).trans hB2
  have HK2 : Hid (KeepG w W2) := (KeepG.of_below HB1.out).trans hK2
  clear hF hB2 hK2
  go_wp2_with fail
  go_ret
  exact ⟨rfl, HF.out, HB2.out, HK2.out⟩
section
variable {w : World} {ops : Array Oper} {rest : List Oper} {o : Oper} {a : Act} {Q : Exit → Act → World → Prop}
theorem jn_zero (W : World) : (zeroValue 82).run Tryz.prog W = .ok (jnV (0, 0)) W := (zero_of_info (P := Tryz.prog) (t := 82) (v := jnV (0, 0)) (n := 2) (by kernel_rfl)).1 W
theorem wpList_alloc_jn (hgd : o.guard = none) (hop : o.op = .alloc 82)
    (h : ∀ W, Blk W w.heap.size 82 [.int .u8 0, .int .u8 0] → w.heap.size + 1 ≤ W.heap.size → Below w.heap.size w W → wpList Tryz.prog ops Q rest (a.put o.dst (.pointer (some ⟨w.heap.size, 0, none⟩))) W) : wpList Tryz.prog ops Q (o :: rest) a w :=
  wpList_alloc_z hgd 82 hop (jn_zero _) fun W hW => by
    obtain ⟨h1, h2, h3⟩ := fresh1 (a := [.int .u8 0, .int .u8 0]) hW
    exact h W h1 h2 h3
theorem wpList_store_jn (hgd : o.guard = none) (hod : o.dst = none) (x y : Operand) (hop : o.op = .store 82 x y) (g : Nat) (hx : a.eval x = .pointer (some ⟨g, 0, none⟩)) (b : Nat × Nat) (hy : a.eval y = jnV b) {T0 : TypeId} {u v : Value} (hb : Blk w g T0 [u, v])
    (h : ∀ W, Blk W g T0 [.int .u8 b.1, .int .u8 b.2] → w.grownBy W (some g) → wpList Tryz.prog ops Q rest a W) : wpList Tryz.prog ops Q (o :: rest) a w :=
  wpList_store_blk hgd hod 82 x y hop g hx [.int .u8 b.1, .int .u8 b.2] hy hb rfl jn_info (eJn.one b) h
end
set_option maxRecDepth 20000 in
set_option maxHeartbeats 4000000 in
theorem mass_any (w : World) (B gm : Nat) (F : Nat → Option Gb) (m : Pn.Mm) (hM : MemoIs w B gm F m) (j : Nat × Nat) (ha : (Pn.mget m j.1).isSome) (hb : (Pn.mget m j.2).isSome) :
    Calls Tryz.prog 30 #[.map (some gm), jnV j] w (RetMm w B gm (Pn.mass m j).1 (Pn.mass m j).2) := by
  have ha' : j.1 < 16 := by have := Pn.mget_lt ha; rw [hM.ok.len] at this; exact this
  have hb' : j.2 < 16 := by have := Pn.mget_lt hb; rw [hM.ok.len] at this; exact this
  have HM := Lib.hid hM
  have HB := Lib.hid hb
  have HZ := Lib.hid ptrG_zero
  obtain ⟨x, hx⟩ : ∃ x, F j.1 = some x := by
    have := hM.js j.1
    cases h : F j.1 with
    | none => rw [h] at this; rw [← this] at ha; cases ha
    | some x => exact ⟨x, rfl⟩
  have hjs : x.js = Pn.mjs m j.1 := by unfold Pn.mjs; rw [← hM.js j.1, hx]; rfl
  have HX := Lib.hid hx
  have HJS := Lib.hid hjs
  have hfew : x.js.length ≤ 256 := by rw [hjs]; exact hM.ok.few _
  have HIN : Hid (∀ k ∈ x.js, k.1 < 16 ∧ k.2 < 16 ∧ (Pn.mget m k.1).isSome ∧ (Pn.mget m k.2).isSome) := by show ∀ k ∈ x.js, _; rw [hjs]; exact hM.ok.js _
  obtain ⟨D, hD⟩ : ∃ D, Pn.mass m j = D := ⟨_, rfl⟩
  have HD : Hid (Pn.massF j.2 x.js (m, false) = D) := by show _ = _; rw [← hD, hjs]; rfl
  rw [hD]
  clear hM ha hb hx hjs hD
  go_enter Tryz.func30, Tryz.ntmps30
  go_upto_region 1 with (refine wpList_box_jn rfl (.tmp 1) rfl j rfl ?_; intro W1 hb1 hz1 hB1)
  have HB1 := Lib.hid hB1
  have HH := Lib.hid hb1
  obtain ⟨d0, -⟩ := Blk.c2 hb1
  have hmp := HM.out.at_.map.below hB1
  have hM1 := HM.out.below hB1
  obtain ⟨c0, -⟩ := Blk.c3 (hM1.at_.blk j.1 x HX.out)
  have HM1 := Lib.hid hM1
  obtain ⟨g3, hg3⟩ : ∃ g, w.heap.size = g := ⟨_, rfl⟩
  rw [hg3] at d0 HH
  rw [hg3]
  have HG3 := Lib.hid hg3
  clear hB1 hz1 hb1 hM1 hg3
  go_upto_region 3 with (at_lookup; refine wpList_memo_at rfl (.tmp 8) (.tmp 10) rfl rfl hmp j.1 rfl (by omega) (HZ.out _) x.g (by rw [HX.out]; rfl) ?_)
  clear d0 hmp c0
  have HO : Hid (EOwn eJn W1 B x.ja x.jc x.js) := HM1.out.at_.row j.1 x HX.out
  go_loopw [5, 16] (fun bv iv wr => ∃ (i : Nat) (b : Bool), i ≤ x.js.length ∧ iv = .int .i64 (i : Int) ∧ bv = .bool b ∧ Hid (∃ m0 F0, Pn.massF j.2 (x.js.drop i) (m0, b) = D ∧ MemoIs wr B gm F0 m0 ∧ (∀ i, (Pn.mget m i).isSome → (Pn.mget m0 i).isSome) ∧ Below B W1 wr ∧ KeepG W1 wr)) (fun _ iv _ => x.js.length - (intOf iv).toNat)
  case atStart => exact ⟨0, false, Nat.zero_le _, by go_num, rfl, m, F, HD.out, HM1.out, fun _ h => h, Below.refl _ _, KeepG.refl _⟩
  case round =>
    obtain ⟨i, b, hi, rfl, rfl, HJ⟩ := hrel
    obtain ⟨m0, F0, hdm, hm0, hsm, hbr, hkr⟩ := HJ.out
    have HDM := Lib.hid hdm
    have HM0 := Lib.hid hm0
    have HSM := Lib.hid hsm
    have HBR := Lib.hid hbr
    have HKR := Lib.hid hkr
    clear HJ hdm hm0 hsm hbr hkr
    by_cases hlt : i < x.js.length
    · have hii : (i : Int) < (x.js.length : Int) := by omega
      have HROW := Lib.hid ((HO.out.keepG (by decide) HKR.out).row)
      obtain ⟨bb, oo, ha, -, -⟩ := HROW.out.at_ hlt
      obtain ⟨k, hk⟩ : ∃ k, x.js[i] = k := ⟨_, rfl⟩
      have HIW : Hid (ERow eJn wr (some ⟨bb, oo, none⟩) x.js) := by show ERow _ _ _ _; rw [← ha]; exact HROW.out
      have HTK : Hid (x.js.drop i = k :: x.js.drop (i + 1)) := by show _ = _; rw [← hk]; exact List.drop_eq_getElem_cons hlt
      have HKIN := Lib.hid (HIN.out k (by rw [← hk]; exact List.getElem_mem hlt))
      have HKX := Lib.hid hk
      rw [ha]
      clear ha HROW hk
      go_upto_region 5 with (first | (refine wpList_load_jn_at rfl (.tmp 18) rfl HIW.out hlt k HKX.out rfl ?_) | (refine wpList_alloc_jn rfl rfl ?_; intro W6 hb6 hz6 hB6) | (refine wpList_store_jn rfl rfl (.tmp 7) (.tmp 19) rfl wr.heap.size rfl k rfl hb6 ?_; intro W7 hb7 hg7))
      have hBn : Below wr.heap.size wr W7 := below_of_grown hB6 hg7 (Nat.le_refl _) hB6.size
      have HM7 := Lib.hid (HM0.out.below hBn)
      have HB7 : Hid (Below B W1 W7) := HBR.out.trans (hBn.mono HM0.out.size)
      have HK7 : Hid (KeepG W1 W7) := HKR.out.trans (KeepG.of_below hBn)
      clear hb6 hz6 hB6 hg7 HIW hBn HKX
      generalize wr.heap.size = g7 at hb7 ⊢
      -- k, the blocks at hand: g7 (k), HH (j)
      have hkk := HKIN.out
      obtain ⟨d0, d1, -⟩ := Blk.c2 hb7
      obtain ⟨-, e1, -⟩ := Blk.c2 (HH.out.keepG (by decide) HK7.out)
      go_wp2_with fail
      refine (madd_any W7 B gm F0 m0 HM7.out k.2 j.2 (HSM.out _ HKIN.out.2.2.2) (HSM.out _ HB.out)).mono ?_
      rintro e W8 ⟨rfl, ⟨F1, hF1⟩, hB8, hK8⟩
      obtain ⟨r1, hr1⟩ : ∃ r, Pn.madd m0 k.2 j.2 = r := ⟨_, rfl⟩
      rw [hr1] at hF1 ⊢
      have HF1 := Lib.hid hF1
      have HOK := Lib.hid hF1.ok
      have HBX : Hid (Below B W1 W8) := HB7.out.trans hB8
      have HKX : Hid (KeepG W1 W8) := HK7.out.trans hK8
      have HLT : Hid ((k.1 ||| (k.2 ||| j.2)) < 16) := or16 _ HKIN.out.1 _ (or16 _ HKIN.out.2.1 _ hb')
      have HSX : Hid (∀ i, (Pn.mget m i).isSome → (Pn.mget r1.1 i).isSome) := fun i hi => by rw [← hr1]; exact Pn.madd_some HM7.out.ok.len (or16 _ HKIN.out.2.1 _ hb') (HSM.out i hi)
      have HS1 : Hid ((Pn.mget r1.1 k.1).isSome) := HSX.out _ HKIN.out.2.2.1
      have HS2 : Hid ((Pn.mget r1.1 (k.2 ||| j.2)).isSome) := by show (Pn.mget r1.1 _).isSome; rw [← hr1]; exact Pn.madd_self HM7.out.ok.len (or16 _ HKIN.out.2.1 _ hb')
      have ho8 := or8 k.2 HKIN.out.2.1 j.2 hb'
      obtain ⟨d0, d1, -⟩ := Blk.c2 (hb7.keepG (by decide) hK8)
      obtain ⟨-, e1, -⟩ := Blk.c2 (HH.out.keepG (by decide) HKX.out)
      have HDY : Hid (Pn.massF j.2 (x.js.drop (i + 1)) ((Pn.madd r1.1 k.1 (k.2 ||| j.2)).1, (Pn.madd r1.1 k.1 (k.2 ||| j.2)).2 || (r1.2 || b)) = D) := by
        show _ = _
        rw [← HDM.out, HTK.out, ← hr1]
        rfl
      clear hr1 hF1 hB8 hK8 hkk
      cases hb1 : r1.2 with
      | true =>
        have HDX : Hid (Pn.massF j.2 (x.js.drop (i + 1)) ((Pn.madd r1.1 k.1 (k.2 ||| j.2)).1, (Pn.madd r1.1 k.1 (k.2 ||| j.2)).2 || true) = D) := by show _ = _; rw [← HDY.out, hb1]; rfl
        clear hb1
        go_wp2_with fail
        refine (madd_any W8 B gm F1 r1.1 HF1.out k.1 (k.2 ||| j.2) HS1.out HS2.out).mono ?_
        rintro e W8 ⟨rfl, ⟨F8, hF8⟩, hB8, hK8⟩
        obtain ⟨r2, hr2⟩ : ∃ r, Pn.madd r1.1 k.1 (k.2 ||| j.2) = r := ⟨_, rfl⟩
        rw [hr2] at hF8 ⊢
        have HR2 := Lib.hid hr2
        have HF8 := Lib.hid hF8
        have HB8 : Hid (Below B W1 W8) := HBX.out.trans hB8
        have HK8 : Hid (KeepG W1 W8) := HKX.out.trans hK8
        have HS8 : Hid (∀ i, (Pn.mget m i).isSome → (Pn.mget r2.1 i).isSome) := fun i hi => by rw [← HR2.out]; exact Pn.madd_some HOK.out.len HLT.out (HSX.out i hi)
        clear hr2 hF8 hB8 hK8
        cases hb2 : r2.2 with
        | true =>
          have HD8 : Hid (Pn.massF j.2 (x.js.drop (i + 1)) (r2.1, true) = D) := by show _ = _; rw [← HDX.out, ← HR2.out]; rw [HR2.out, hb2]; rfl
          clear hb2
          go_wp2_with fail
          go_roundw
          case rel => exact ⟨i + 1, true, by omega, by go_num, rfl, ⟨r2.1, F8, HD8.out, HF8.out, HS8.out, HB8.out, HK8.out⟩⟩
          case measure => simp [intOf]; omega
        | false =>
          have HD8 : Hid (Pn.massF j.2 (x.js.drop (i + 1)) (r2.1, true) = D) := by show _ = _; rw [← HDX.out, ← HR2.out]; rw [HR2.out, hb2]; rfl
          clear hb2
          go_wp2_with fail
          go_roundw
          case rel => exact ⟨i + 1, true, by omega, by go_num, rfl, ⟨r2.1, F8, HD8.out, HF8.out, HS8.out, HB8.out, HK8.out⟩⟩
          case measure => simp [intOf]; omega
      | false =>
        have HDX : Hid (Pn.massF j.2 (x.js.drop (i + 1)) ((Pn.madd r1.1 k.1 (k.2 ||| j.2)).1, (Pn.madd r1.1 k.1 (k.2 ||| j.2)).2 || b) = D) := by show _ = _; rw [← HDY.out, hb1]; rfl
        clear hb1
        go_wp2_with fail
        refine (madd_any W8 B gm F1 r1.1 HF1.out k.1 (k.2 ||| j.2) HS1.out HS2.out).mono ?_
        rintro e W8 ⟨rfl, ⟨F8, hF8⟩, hB8, hK8⟩
        obtain ⟨r2, hr2⟩ : ∃ r, Pn.madd r1.1 k.1 (k.2 ||| j.2) = r := ⟨_, rfl⟩
        rw [hr2] at hF8 ⊢
        have HR2 := Lib.hid hr2
        have HF8 := Lib.hid hF8
        have HB8 : Hid (Below B W1 W8) := HBX.out.trans hB8
        have HK8 : Hid (KeepG W1 W8) := HKX.out.trans hK8
        have HS8 : Hid (∀ i, (Pn.mget m i).isSome → (Pn.mget r2.1 i).isSome) := fun i hi => by rw [← HR2.out]; exact Pn.madd_some HOK.out.len HLT.out (HSX.out i hi)
        clear hr2 hF8 hB8 hK8
        cases hb2 : r2.2 with
        | true =>
          have HD8 : Hid (Pn.massF j.2 (x.js.drop (i + 1)) (r2.1, true) = D) := by show _ = _; rw [← HDX.out, ← HR2.out]; rw [HR2.out, hb2]; rfl
          clear hb2
          go_wp2_with fail
          go_roundw
          case rel => exact ⟨i + 1, true, by omega, by go_num, rfl, ⟨r2.1, F8, HD8.out, HF8.out, HS8.out, HB8.out, HK8.out⟩⟩
          case measure => simp [intOf]; omega
        | false =>
          have HD8 : Hid (Pn.massF j.2 (x.js.drop (i + 1)) (r2.1, b) = D) := by show _ = _; rw [← HDX.out, ← HR2.out]; rw [HR2.out, hb2]; rfl
          clear hb2
          go_wp2_with fail
          go_roundw
          case rel => exact ⟨i + 1, b, by omega, by go_num, rfl, ⟨r2.1, F8, HD8.out, HF8.out, HS8.out, HB8.out, HK8.out⟩⟩
          case measure => simp [intOf]; omega
    · have hii : ¬ (i : Int) < (x.js.length : Int) := by omega
      have HR : Hid (D = (m0, b)) := by
        show _ = _
        rw [← HDM.out, List.drop_eq_nil_of_le (by omega)]
        rfl
      have HRM : Hid (MemoIs wr B gm F0 D.1) := by rw [HR.out]; exact HM0.out
      have HRB : Hid (Below B w wr) := (HB1.out.mono HM.out.size).trans HBR.out
      have HRK : Hid (KeepG w wr) := (KeepG.of_below HB1.out).trans HKR.out
      go_wp2_with fail
      go_ret
      exact ⟨by rw [HR.out]; rfl, ⟨_, HRM.out⟩, HRB.out, HRK.out⟩
end Go.Proofs.YtjdffhonljhpcaaGreat
end

section
/-
  The contracts of a planner's gives and optimize.
-/
namespace Go.Proofs.YtjdffhonljhpcaaGreat
set_option linter.unusedSimpArgs false
set_option linter.unusedVariables false
open Go.RowKit Go.Maps

set_option maxRecDepth 20000 in
set_option maxHeartbeats 1000000 in
theorem plwgives_any (w : World) (g : Nat) (X : Wp) (hb : Blk w g 61 X.cells) (hX : WpIn w X) (l : Pm) (hl : PmIn w l) (hok : GvOk X.p.x l) :
    Calls Tryz.prog 35 #[.pointer (some ⟨g, 0, none⟩), l.v] w (RetBo w (Pn.gives X.p.x l.e)) := by
  have HX := Lib.hid hX
  have HB := Lib.hid hb
  have HG := Lib.hid (plgives_any w X.p hX.q hX.s X.da X.dc hX.d l hl hok)
  clear hX hb hl hok
  go_enter Tryz.func35, Tryz.ntmps35
  go_upto_region 1 with (refine wpList_box_pm rfl (.tmp 1) rfl l rfl ?_; intro W1 hb1 hz1 hB1)
  have HBD : Hid (Below w.heap.size w W1.drew) := hB1.drewR
  have h1d := hb1.drew
  have hbd : Blk W1.drew g 61 (X.p.cells ++ (.slice X.da X.p.x.defs.length X.dc :: X.tail)) := HB.out.below HBD.out
  obtain ⟨c9, -, -, -⟩ := Blk.wt (HB.out.below HBD.out)
  obtain ⟨g3, hg3⟩ : ∃ g, w.heap.size = g := ⟨_, rfl⟩
  rw [hg3] at h1d
  rw [hg3]
  clear hb1 hz1 hB1 hg3
  refine wp_region_plan (.take 0 (.take 1 (.take 2 (.take 3 (.take 4 (.take 5 (.take 6 (.take 7 (.take 8 (.run 9 [] (.take 10 .fin))))))))))) (by kernel_rfl) (by kernel_rfl) (by kernel_rfl) (by kernel_rfl) ?_
  repeat' (first | (refine hZ _ _ ?_; clear hZ) | (refine hZ _ ?_; clear hZ) | (refine hZ ?_; clear hZ) | rw [again_nil] | rw [walk_fin] | ((first | rw [walk_take] | rw [walk_run] | rw [again_cons]); intro Z hZ; simp only [sel, List.getElem?_toArray, List.getElem?_cons_zero, List.getElem?_cons_succ]; go_wp2_with (first | (refine wpList_load_qp rfl (.tmp 7) rfl g rfl hbd ?_) | (refine wpList_load_pm rfl (.tmp 3) rfl g3 rfl h1d ?_))))
  refine (HG.out W1.drew HBD.out).mono ?_
  rintro e W2 ⟨rfl, hB2⟩
  have HB2 := Lib.hid (HBD.out.then hB2)
  clear hB2 hbd h1d c9
  go_wp2_with fail
  repeat' (first | (refine hZ _ _ ?_; clear hZ) | (refine hZ _ ?_; clear hZ) | (refine hZ ?_; clear hZ) | rw [again_nil] | rw [walk_fin] | ((first | rw [walk_take] | rw [walk_run] | rw [again_cons]); intro Z hZ; simp only [sel, List.getElem?_toArray, List.getElem?_cons_zero, List.getElem?_cons_succ]; go_wp2_with (fail)))
  go_wp2_with fail
  go_ret
  exact ⟨rfl, HB2.out⟩
/-- The groups' best plans in memory. -/
structure OptMem (w : World) (B gm N : Nat) (F : Nat → Option Gb) (J : Nat → List (Nat × Nat)) (M : Nat → Pn.Bo) (all : Nat) : Prop where
  at_ : MemoAt w B gm N F
  ex : ∀ k, 1 ≤ k → k ≤ all → ∃ x, F k = some x
  js : ∀ k x, F k = some x → x.js = J k
  bv : ∀ k x, F k = some x → OptAt w x.bv (M k).best
  ov : ∀ k x, F k = some x → OptAt w x.ov (M k).ord
  size : B ≤ w.heap.size
theorem OptMem.below {w w' : World} {B gm N : Nat} {F : Nat → Option Gb} {J : Nat → List (Nat × Nat)} {M : Nat → Pn.Bo} {all : Nat} (h : OptMem w B gm N F J M all) (hb : Below w.heap.size w w') : OptMem w' B gm N F J M all :=
  ⟨h.at_.below hb, h.ex, h.js, fun k x hk => (h.bv k x hk).below hb, fun k x hk => (h.ov k x hk).below hb, Nat.le_trans h.size hb.size⟩
/-- One group's best plan is another one. -/
theorem OptMem.setBest {w : World} {B gm N : Nat} {F : Nat → Option Gb} {J : Nat → List (Nat × Nat)} {M : Nat → Pn.Bo} {all : Nat} (h : OptMem w B gm N F J M all) {s : Nat} {x : Gb} (hx : F s = some x) {u : Value} {l : Pl} (hu : OptAt w u (some l)) :
    OptMem (w.setCell ⟨x.g, 1, none⟩ u) B gm N (fun i => if i = s then some { x with bv := u } else F i) J (Pn.setM M s ⟨some l, (M s).ord⟩) all ∧ KeepG w (w.setCell ⟨x.g, 1, none⟩ u) ∧ Below B w (w.setCell ⟨x.g, 1, none⟩ u) := by
  have hb := h.at_.blk s x hx
  have hk : KeepG w (w.setCell ⟨x.g, 1, none⟩ u) := KeepG.set hb u
  have hg : w.grownBy (w.setCell ⟨x.g, 1, none⟩ u) (some x.g) := grown_store w x.g 1 u
  have hb' : Blk (w.setCell ⟨x.g, 1, none⟩ u) x.g 74 (Gb.cells { x with bv := u }) := hb.set1
  refine ⟨⟨h.at_.turn (y := { x with bv := u }) hx rfl hg hb' ((h.at_.row s x hx).keepG (by decide) hk), fun k h1 h2 => ?_, fun k y hy => ?_, fun k y hy => ?_, fun k y hy => ?_, by simpa using h.size⟩, hk, below_of_grown (Below.refl _ _) hg (h.at_.lo s x hx) h.size⟩
  · by_cases e : k = s
    · exact ⟨_, if_pos e⟩
    · obtain ⟨y, hy⟩ := h.ex k h1 h2
      exact ⟨y, by rw [if_neg e]; exact hy⟩
  · split at hy
    · next e => cases hy; rw [e]; exact h.js s x hx
    · exact h.js k y hy
  · unfold Pn.setM
    split at hy
    · next e => cases hy; rw [if_pos e]; exact hu.keepG hk
    · next e => rw [if_neg e]; exact (h.bv k y hy).keepG hk
  · unfold Pn.setM
    split at hy
    · next e => cases hy; rw [if_pos e]; exact (h.ov s x hx).keepG hk
    · next e => rw [if_neg e]; exact (h.ov k y hy).keepG hk
theorem OptMem.setOrd {w : World} {B gm N : Nat} {F : Nat → Option Gb} {J : Nat → List (Nat × Nat)} {M : Nat → Pn.Bo} {all : Nat} (h : OptMem w B gm N F J M all) {s : Nat} {x : Gb} (hx : F s = some x) {u : Value} {l : Pl} (hu : OptAt w u (some l)) :
    OptMem (w.setCell ⟨x.g, 2, none⟩ u) B gm N (fun i => if i = s then some { x with ov := u } else F i) J (Pn.setM M s ⟨(M s).best, some l⟩) all ∧ KeepG w (w.setCell ⟨x.g, 2, none⟩ u) ∧ Below B w (w.setCell ⟨x.g, 2, none⟩ u) := by
  have hb := h.at_.blk s x hx
  have hk : KeepG w (w.setCell ⟨x.g, 2, none⟩ u) := KeepG.set hb u
  have hg : w.grownBy (w.setCell ⟨x.g, 2, none⟩ u) (some x.g) := grown_store w x.g 2 u
  have hb' : Blk (w.setCell ⟨x.g, 2, none⟩ u) x.g 74 (Gb.cells { x with ov := u }) := hb.set2
  refine ⟨⟨h.at_.turn (y := { x with ov := u }) hx rfl hg hb' ((h.at_.row s x hx).keepG (by decide) hk), fun k h1 h2 => ?_, fun k y hy => ?_, fun k y hy => ?_, fun k y hy => ?_, by simpa using h.size⟩, hk, below_of_grown (Below.refl _ _) hg (h.at_.lo s x hx) h.size⟩
  · by_cases e : k = s
    · exact ⟨_, if_pos e⟩
    · obtain ⟨y, hy⟩ := h.ex k h1 h2
      exact ⟨y, by rw [if_neg e]; exact hy⟩
  · split at hy
    · next e => cases hy; rw [e]; exact h.js s x hx
    · exact h.js k y hy
  · unfold Pn.setM
    split at hy
    · next e => cases hy; rw [if_pos e]; exact (h.bv s x hx).keepG hk
    · next e => rw [if_neg e]; exact (h.bv k y hy).keepG hk
  · unfold Pn.setM
    split at hy
    · next e => cases hy; rw [if_pos e]; exact hu.keepG hk
    · next e => rw [if_neg e]; exact (h.ov k y hy).keepG hk
theorem setM_setM (M : Nat → Pn.Bo) (s : Nat) (a b : Pn.Bo) : Pn.setM (Pn.setM M s a) s b = Pn.setM M s b := by
  funext i
  unfold Pn.setM
  split <;> rfl
theorem setM_self (M : Nat → Pn.Bo) (s : Nat) : Pn.setM M s (M s) = M := by
  funext i
  unfold Pn.setM
  split
  · next h => rw [h]
  · rfl
theorem setM_at (M : Nat → Pn.Bo) (s : Nat) (a : Pn.Bo) : Pn.setM M s a s = a := if_pos rfl
theorem setM_ne {M : Nat → Pn.Bo} {s k : Nat} (a : Pn.Bo) (h : k ≠ s) : Pn.setM M s a k = M k := if_neg h
/-- The groups in world w, group s of which lies in block g0 and has its joins at ja. -/
def OptSt (w : World) (B gm N : Nat) (J : Nat → List (Nat × Nat)) (M : Nat → Pn.Bo) (all s : Nat) (G : Nat → Nat) (g0 : Nat) (ja : Option Addr) (jc : Nat) : Prop :=
  ∃ F, OptMem w B gm N F J M all ∧ (∀ k x, F k = some x → x.g = G k) ∧ ∃ x, F s = some x ∧ x.g = g0 ∧ x.ja = ja ∧ x.jc = jc
section
variable {w w' : World} {B gm N : Nat} {J : Nat → List (Nat × Nat)} {M : Nat → Pn.Bo} {all s g0 : Nat} {G : Nat → Nat} {ja : Option Addr} {jc : Nat}
theorem OptSt.below (h : OptSt w B gm N J M all s G g0 ja jc) (hb : Below w.heap.size w w') : OptSt w' B gm N J M all s G g0 ja jc := by
  obtain ⟨F, h1, hG, x, h2⟩ := h
  exact ⟨F, h1.below hb, hG, x, h2⟩
/-- What the walk asks of group s. -/
theorem OptSt.grp (h : OptSt w B gm N J M all s G g0 ja jc) : ∃ bv ov, Blk w g0 74 [.slice ja (J s).length jc, bv, ov] ∧ OptAt w bv (M s).best ∧ OptAt w ov (M s).ord ∧ EOwn eJn w B ja jc (J s) := by
  obtain ⟨F, h1, -, x, h2, h3, h4, h5⟩ := h
  have hb := h1.at_.blk s x h2
  have hr := h1.at_.row s x h2
  unfold Gb.cells at hb
  rw [h1.js s x h2, h3, h4, h5] at hb
  rw [h1.js s x h2, h4, h5] at hr
  exact ⟨x.bv, x.ov, hb, h1.bv s x h2, h1.ov s x h2, hr⟩
theorem OptSt.size (h : OptSt w B gm N J M all s G g0 ja jc) : B ≤ w.heap.size := by
  obtain ⟨F, h1, -⟩ := h
  exact h1.size
/-- What the walk asks of another group. -/
theorem OptSt.at_ (h : OptSt w B gm N J M all s G g0 ja jc) {k : Nat} (h1 : 1 ≤ k) (h2 : k ≤ all) : ∃ f bv ov jv, GMap w gm N f ∧ f k = some (G k) ∧ Blk w (G k) 74 [jv, bv, ov] ∧ OptAt w bv (M k).best ∧ OptAt w ov (M k).ord := by
  obtain ⟨F, hm, hG, -⟩ := h
  obtain ⟨x, hx⟩ := hm.ex k h1 h2
  rw [← hG k x hx]
  exact ⟨_, x.bv, x.ov, _, hm.at_.map, by rw [hx]; rfl, hm.at_.blk k x hx, hm.bv k x hx, hm.ov k x hx⟩
theorem OptSt.setBest (h : OptSt w B gm N J M all s G g0 ja jc) {u : Value} {l : Pl} (hu : OptAt w u (some l)) : OptSt (w.setCell ⟨g0, 1, none⟩ u) B gm N J (Pn.setM M s ⟨some l, (M s).ord⟩) all s G g0 ja jc ∧ KeepG w (w.setCell ⟨g0, 1, none⟩ u) ∧ Below B w (w.setCell ⟨g0, 1, none⟩ u) := by
  obtain ⟨F, h1, hG, x, h2, h3, h4, h5⟩ := h
  subst h3
  obtain ⟨k1, k2, k3⟩ := h1.setBest h2 hu
  refine ⟨⟨_, k1, fun k y hy => ?_, _, if_pos rfl, rfl, h4, h5⟩, k2, k3⟩
  split at hy
  · next e => cases hy; rw [e]; exact hG s x h2
  · exact hG k y hy
theorem OptSt.setOrd (h : OptSt w B gm N J M all s G g0 ja jc) {u : Value} {l : Pl} (hu : OptAt w u (some l)) : OptSt (w.setCell ⟨g0, 2, none⟩ u) B gm N J (Pn.setM M s ⟨(M s).best, some l⟩) all s G g0 ja jc ∧ KeepG w (w.setCell ⟨g0, 2, none⟩ u) ∧ Below B w (w.setCell ⟨g0, 2, none⟩ u) := by
  obtain ⟨F, h1, hG, x, h2, h3, h4, h5⟩ := h
  subst h3
  obtain ⟨k1, k2, k3⟩ := h1.setOrd h2 hu
  refine ⟨⟨_, k1, fun k y hy => ?_, _, if_pos rfl, rfl, h4, h5⟩, k2, k3⟩
  split at hy
  · next e => cases hy; rw [e]; exact hG s x h2
  · exact hG k y hy
end
namespace Pn
/-- What access may answer. -/
def AccOk (x : PX) (q : Pl) : Prop := q.op = 1 ∨ (q.op = 2 ∧ 0 ≤ q.ix ∧ q.ix < (x.defs.length : Int) ∧ 0 ≤ q.fr ∧ q.fr < (x.T.length : Int) ∧ q.eq.length ≤ (x.defs.getD q.ix.toNat ⟨0, none, [], 0, false⟩).cols.length)
theorem accF_ok (x : PX) (f : Nat) (n : Int) : ∀ (L : List Df) (i : Nat) (out : List Pl), L = x.defs.drop i → (∀ q ∈ out, AccOk x q) → ∀ q ∈ accF x f n i L out, AccOk x q
  | [], i, out, _, h => h
  | d :: L, i, out, hL, h => by
    have hi : i < x.defs.length := by
      by_cases hi : i < x.defs.length
      · exact hi
      · rw [List.drop_eq_nil_of_le (by omega)] at hL; cases hL
    rw [List.drop_eq_getElem_cons hi] at hL
    have h1 : d = x.defs[i] := (List.cons.inj hL).1
    refine accF_ok x f n L (i + 1) _ (List.cons.inj hL).2 fun q hq => ?_
    split at hq
    · next hf =>
      rcases List.mem_append.1 hq with hq | hq
      · exact h q hq
      · rw [List.mem_singleton.1 hq]
        unfold fits at hf
        rw [Bool.and_eq_true, decide_eq_true_eq] at hf
        refine .inr ⟨rfl, by show (0 : Int) ≤ (i : Int); omega, by show (i : Int) < _; omega, by show (0 : Int) ≤ (f : Int); omega, by show (f : Int) < _; omega, ?_⟩
        show (eqN x f d 0).length ≤ (x.defs.getD (i : Int).toNat _).cols.length
        rw [Int.toNat_natCast]
        have e : x.defs.getD i ⟨0, none, [], 0, false⟩ = d := by rw [h1]; simp [List.getD, hi]
        rw [e]
        exact eqN_len _ _ _ _
    · exact h q hq
theorem accF_ne (x : PX) (f : Nat) (n : Int) : ∀ (L : List Df) (i : Nat) (out : List Pl), out ≠ [] → accF x f n i L out ≠ []
  | [], i, out, h => h
  | d :: L, i, out, h => by
    refine accF_ne x f n L (i + 1) _ ?_
    split
    · simp
    · exact h
theorem access_ne (x : PX) (f : Nat) (n : Int) : access x f n ≠ [] := accF_ne x f n x.defs 0 _ (by simp)
theorem fold_some {α : Type} (F : Bo → α → Bo) (hF : ∀ g a, (F g a).best.isSome = true) : ∀ (L : List α) (g : Bo), g.best.isSome = true ∨ L ≠ [] → (L.foldl F g).best.isSome = true
  | [], g, h => by rcases h with h | h; exact h; exact absurd rfl h
  | a :: L, g, _ => fold_some F hF L (F g a) (.inl (hF g a))
theorem accF_len (x : PX) (f : Nat) (n : Int) : ∀ (L : List Df) (i : Nat) (out : List Pl), (accF x f n i L out).length ≤ L.length + out.length
  | [], i, out => by show out.length ≤ _; simp
  | d :: L, i, out => by
    refine Nat.le_trans (accF_len x f n L (i + 1) _) ?_
    split
    · simp; omega
    · simp
theorem access_len (x : PX) (f : Nat) (n : Int) : (access x f n).length ≤ x.defs.length + 1 := accF_len x f n x.defs 0 _
theorem access_ok (x : PX) (f : Nat) (n : Int) : ∀ q ∈ access x f n, AccOk x q := accF_ok x f n x.defs 0 _ rfl (by
  intro q hq
  rw [List.mem_singleton.1 hq]
  exact .inl rfl)
end Pn
theorem gvOk_of {x : Pn.PX} {l : Pm} (h : Pn.AccOk x l.e) : GvOk x l := by
  have e1 := l.e_op
  have e2 : l.e.ix = l.ix := by cases l; rfl
  have e3 : l.e.fr = l.fr := by cases l; rfl
  have e4 : l.e.eq = l.eq := by cases l; rfl
  unfold Pn.AccOk at h
  rw [e1, e2, e3, e4] at h
  rcases h with h | ⟨h0, h1, h2, h3, h4, h5⟩
  · exact .seq h
  · exact .range (by omega) (by omega) (by omega) (by omega) h1 h2 h3 h4 h5
theorem sort_at {W : World} {g1 g2 : Nat} {pl : Pm} {c n : Int} (hl : PmIn W pl) (ba : Blk W g1 44 pl.cells)
    (bb : Blk W g2 44 [.int .i64 5, .int .i64 (-1), .int .i64 (-1), .slice none 0 0, .int .i64 (-1), .int .i64 (-1), .int .i64 c, .int .i64 n, .slice (some ⟨g1, 0, none⟩) 1 1]) :
    PmAt W g2 (.mk 5 (-1) (-1) [] (-1) (-1) c n [pl.e]) (.mk 5 (-1) (-1) none [] 0 (-1) (-1) c n (some ⟨g1, 0, none⟩) [pl] 1) :=
  ⟨bb, .mk (EOwn.nil _ _) (Blk.own ePm ba [pl] (by simp [Elem.cells, ePm]) (by show 1 ≤ 9223372036854775807; decide) (Nat.zero_le _)) (by
    intro k hk
    simp only [Pm.kids, List.mem_cons, List.not_mem_nil, or_false] at hk
    rw [hk]; exact hl) (Nat.zero_le _) (by show 1 ≤ 1000; decide), rfl⟩
set_option maxRecDepth 20000 in
set_option maxHeartbeats 8000000 in
theorem plopt_any (w0 : World) (g : Nat) (X : Wp) (hb : Blk w0 g 61 X.cells) (hX : WpIn w0 X) (gm N : Nat) (J : Nat → List (Nat × Nat)) (M : Nat → Pn.Bo) (all s : Nat) (G : Nat → Nat) (g0 : Nat) (ja : Option Addr) (jc : Nat)
    (h1 : 1 ≤ s) (h2 : s ≤ all) (h3 : all < 16) (hJl : (J s).length ≤ 1000) (hJ : ∀ j ∈ J s, 1 ≤ j.1 ∧ j.1 ≤ all ∧ 1 ≤ j.2 ∧ j.2 ≤ all ∧ j.1 ≠ s ∧ j.2 ≠ s ∧ (M j.1).best.isSome ∧ (M j.2).best.isSome)
    (hne : (∃ f, Pn.one s = some f ∧ f < X.p.x.T.length) ∨ (Pn.one s = none ∧ J s ≠ [])) (w : World) (hw : Below w0.heap.size w0 w) (hM : OptSt w w0.heap.size gm N J M all s G g0 ja jc) :
    Calls Tryz.prog 22 #[.pointer (some ⟨g, 0, none⟩), .map (some gm), .int .u8 s] w fun e w' => e = .returned (.tuple #[]) ∧ OptSt w' w0.heap.size gm N J (Pn.setM M s (Pn.opt X.p.x J M s)) all s G g0 ja jc ∧ Below w0.heap.size w0 w' := by
  have HX := Lib.hid hX
  have HB := Lib.hid hb
  have HW := Lib.hid hw
  have HM := Lib.hid hM
  have HJ := Lib.hid hJ
  have HNE := Lib.hid hne
  have HZ := Lib.hid ptrG_zero
  have hB4 : X.p.x.B.length ≤ 4 := by rw [hX.s.bl]; exact hX.s.t4
  obtain ⟨F, hF, -, xs, hxs, hxg, hxa, hxc⟩ := hM
  have hmp := hF.at_.map
  have hfs : (fun k => (F k).map Gb.g) s = some g0 := by show (F s).map Gb.g = _; rw [hxs, ← hxg]; rfl
  have hs16 : s < 16 := by omega
  clear hb hX hw hJ hne hF hxs hxg hxa hxc
  go_enter Tryz.func22, Tryz.ntmps22
  go_upto_region 1 with (at_lookup; refine wpList_memo_at rfl (.tmp 18) (.tmp 19) rfl rfl hmp s rfl (by omega) (HZ.out _) g0 hfs ?_)
  clear hmp hfs
  go_wp2_with fail
  refine (plsize_any w g X (HB.out.below HW.out) (HX.out.below HW.out) s hs16).mono ?_
  rintro e w1 ⟨rfl, hB1⟩
  have HB1 := Lib.hid (HW.out.then hB1)
  have HM1 := Lib.hid (HM.out.below hB1)
  obtain ⟨sz, hsz⟩ : ∃ k, Pn.size X.p.x s = k := ⟨_, rfl⟩
  have HSZ := Lib.hid hsz
  rw [hsz]
  clear hB1 hsz
  have hbq : Blk w1 g 61 (X.p.cells ++ (.slice X.da X.p.x.defs.length X.dc :: X.tail)) := HB.out.below HB1.out
  go_wp2_with (refine wpList_load_qp rfl (.tmp 27) rfl g rfl hbq ?_)
  refine (plsorts_any w1 X.p (HX.out.q.below HB1.out) hB4).mono ?_
  rintro e w2 ⟨rfl, hB2⟩
  have HB2 := Lib.hid (HB1.out.then hB2)
  have HM2 := Lib.hid (HM1.out.below hB2)
  obtain ⟨by_, hby⟩ : ∃ k, (Pn.sorts X.p.x).1 = k := ⟨_, rfl⟩
  obtain ⟨mu, hmu⟩ : ∃ k, (Pn.sorts X.p.x).2 = k := ⟨_, rfl⟩
  have HBY := Lib.hid hby
  have HMU := Lib.hid hmu
  have hby16 : by_ < 16 := by rw [← hby]; exact Pn.sorts_lt hB4
  rw [hby, hmu]
  clear hB2 hby hmu hbq
  go_wp2_with fail
  refine (mone_any w2 s hs16).mono ?_
  rintro e w3 ⟨rfl, rfl⟩
  obtain ⟨z, hz⟩ : ∃ z, Pn.zeros s = z := ⟨_, rfl⟩
  obtain ⟨ob, hob⟩ : ∃ ob, (Pn.ones s == 1) = ob := ⟨_, rfl⟩
  have HONE : Hid (Pn.one s = if ob = true then some z else none) := by
    show _ = _
    rw [Pn.one_ones s hs16 (by omega), hz, ← hob]
    simp
  rw [hz, hob]
  clear hz hob
  go_upto_if 37 with fail
  obtain ⟨M1, hM1⟩ : ∃ M1, Pn.optA X.p.x s (M s) = M1 := ⟨_, rfl⟩
  have HM1E := Lib.hid hM1
  clear hM1
  go_cut [11, 32, 34, 36] from 37 to 75 (fun _ _ _ _ wx => Hid (OptSt wx w0.heap.size gm N J (Pn.setM M s M1) all s G g0 ja jc ∧ Below w0.heap.size w0 wx))
  case first =>
    cases hob : ob with
    | true =>
      have hf1 : Pn.one s = some z := by rw [HONE.out, if_pos hob]
      have hfT : z < X.p.x.T.length := by
        rcases HNE.out with ⟨f', e1, e2⟩ | ⟨e1, -⟩
        · rw [hf1] at e1; cases e1; exact e2
        · rw [hf1] at e1; cases e1
      obtain ⟨LA, hLA⟩ : ∃ LA, Pn.access X.p.x z sz = LA := ⟨_, rfl⟩
      have HAOK : Hid (∀ q ∈ LA, Pn.AccOk X.p.x q) := by show ∀ q ∈ LA, _; rw [← hLA]; exact Pn.access_ok _ _ _
      have HFO : Hid (LA.foldl (Pn.accStep X.p.x s by_ mu) (M s) = M1) := by
        show _ = _
        rw [← HM1E.out, ← hLA, ← HBY.out, ← HMU.out, ← HSZ.out]
        unfold Pn.optA
        rw [hf1]
      clear hf1
      go_wp2_with fail
      refine (placc_any w2 g X (HB.out.below HB2.out) (HX.out.below HB2.out) z hfT sz).mono ?_
      rw [hLA]
      rintro e w4 ⟨A, c, L, rfl, hPR, hLE, hB4'⟩
      have HPR : Hid (PRow w4 0 A c L) := ⟨hPR.o.mono (Nat.zero_le _), hPR.f⟩
      have HB4 := Lib.hid (HB2.out.then hB4')
      have HM4 := Lib.hid (HM2.out.below hB4')
      have HLE := Lib.hid hLE
      have hLl : L.length ≤ 1001 := by
        have e := congrArg List.length hLE
        rw [List.length_map, ← hLA] at e
        have := Pn.access_len X.p.x z sz
        have := HX.out.d.len
        omega
      clear hPR hLE hB4' hfT hLA
      go_upto_region 5 with fail
      go_loopw [43] (fun iv wr => ∃ (i : Nat), i ≤ L.length ∧ iv = .int .i64 (i : Int) ∧ Hid (∃ bo, ((L.drop i).map Pm.e).foldl (Pn.accStep X.p.x s by_ mu) bo = M1 ∧ OptSt wr w0.heap.size gm N J (Pn.setM M s bo) all s G g0 ja jc ∧ KeepG w4 wr ∧ Below w0.heap.size w0 wr)) (fun iv _ => L.length - (intOf iv).toNat)
      case atStart => exact ⟨0, Nat.zero_le _, by go_num, M s, by rw [List.drop_zero, HLE.out]; exact HFO.out, by rw [setM_self]; exact HM4.out, KeepG.refl _, HB4.out⟩
      case round =>
        obtain ⟨i, hi, rfl, HJ2⟩ := hrel
        obtain ⟨bo, hbo, hMr, hKr, hBr⟩ := HJ2.out
        have HBO := Lib.hid hbo
        have HMR := Lib.hid hMr
        have HKR := Lib.hid hKr
        have HBR := Lib.hid hBr
        clear HJ2 hbo hMr hKr hBr
        by_cases hlt : i < L.length
        · have hii : (i : Int) < (L.length : Int) := by omega
          obtain ⟨q, hq⟩ : ∃ q, L[i] = q := ⟨_, rfl⟩
          have HQ : Hid (PmIn wr q) := by
            show PmIn _ _
            rw [← hq]
            exact (HPR.out.f _ (List.getElem_mem hlt)).pm.keepG HKR.out
          have HGV : Hid (GvOk X.p.x q) := gvOk_of (HAOK.out _ (by rw [← HLE.out, ← hq]; exact List.mem_map_of_mem (List.getElem_mem hlt)))
          have HBO2 : Hid (((L.drop (i + 1)).map Pm.e).foldl (Pn.accStep X.p.x s by_ mu) (Pn.accStep X.p.x s by_ mu bo q.e) = M1) := by
            show _ = _
            rw [← HBO.out, List.drop_eq_getElem_cons hlt, List.map_cons, List.foldl_cons, hq]
          have hA : ∃ bb oo, A = some ⟨bb, oo, none⟩ := by
            obtain ⟨bb, oo, e, -⟩ := (HPR.out.o.row).range hlt
            exact ⟨bb, oo, e⟩
          obtain ⟨bb, oo, rfl⟩ := hA
          have HRW := Lib.hid ((HPR.out.o.keepG (by decide) HKR.out).row)
          have HQE := Lib.hid hq
          clear hq
          clear HPR
          go_upto_region 8 with (first
            | (refine wpList_load_pm_at rfl (.tmp 45) rfl HRW.out hlt q HQE.out rfl ?_)
            | (refine wpList_alloc_pm rfl rfl ?_; intro W5 hb5 hz5 hB5)
            | (refine wpList_store_pm rfl rfl (.tmp 13) (.tmp 46) rfl _ rfl q rfl hb5 ?_; intro W6 hb6 hg6))
          have hB6 : Below wr.heap.size wr W6 := below_of_grown hB5 hg6 (Nat.le_refl _) (by omega)
          obtain ⟨gq, hgq⟩ : ∃ gq, wr.heap.size = gq := ⟨_, rfl⟩
          rw [hgq] at hb6 ⊢
          have HPA : Hid (PmAt W6 gq q.e q) := ⟨hb6, HQ.out.later hB6, rfl⟩
          have HM6 := Lib.hid (HMR.out.below hB6)
          have HB6 := Lib.hid (HBR.out.then hB6)
          have HK6 := Lib.hid (HKR.out.trans (KeepG.of_below hB6))
          clear hb5 hz5 hB5 hb6 hg6 hB6 hgq HRW HQ HQE HMR HBR HKR
          obtain ⟨bv, ov, hgb, hbv, hov, -⟩ := HM6.out.grp
          obtain ⟨-, c1, -, -, -, -, -⟩ := Blk.c3 hgb
          rw [setM_at] at hbv
          go_wp2_with fail
          refine (plless_any W6 bv bo.best hbv gq q.e q HPA.out).mono ?_
          rintro e W7 ⟨u, rfl, ⟨gu, pu, rfl, hpu⟩, hB7⟩
          have HPU := Lib.hid (hpu.below hB7)
          have HM7 := Lib.hid (HM6.out.below hB7)
          have HPA7 := Lib.hid (HPA.out.below hB7)
          have HB7 := Lib.hid (HB6.out.then hB7)
          have HK7 := Lib.hid (HK6.out.trans (KeepG.of_below hB7))
          clear hbv hov hgb c1 hB7 hpu HM6 HPA HB6 HK6
          obtain ⟨bv1, ov1, hgb, -, -, -⟩ := HM7.out.grp
          obtain ⟨-, e1, -, -, f1, -, -⟩ := Blk.c3 hgb
          clear hgb
          go_upto_region 9 with fail
          obtain ⟨k1, k2, k3⟩ := HM7.out.setBest (u := .pointer (some ⟨gu, 0, none⟩)) (l := Pn.lessO bo.best q.e) ⟨gu, pu, rfl, HPU.out⟩
          rw [setM_setM, setM_at] at k1
          generalize W7.setCell ⟨g0, 1, none⟩ (.pointer (some ⟨gu, 0, none⟩)) = W8 at k1 k2 k3 ⊢
          have HM8 := Lib.hid k1
          have HPA8 := Lib.hid (HPA7.out.keepG k2)
          have HK8 := Lib.hid (HK7.out.trans k2)
          have HB8 : Hid (Below w0.heap.size w0 W8) := HB7.out.trans k3
          clear k1 k2 k3 HPU HM7 HPA7 HB7 HK7 f1 e1
          cases mu with
          | false =>
            go_wp2_with fail
            go_roundw
            case rel => exact ⟨i + 1, by omega, by go_num, _, HBO2.out, by (unfold Pn.accStep; rw [if_neg (fun h => by cases h.1)]; exact HM8.out), HK8.out, HB8.out⟩
            case measure => simp [intOf]; omega
          | true =>
            by_cases hbs : s = by_
            · subst hbs
              obtain ⟨d0, d1, d2, d3, d4, d5, d6, d7, d8⟩ := Blk.pm HPA8.out.b
              go_wp2_with fail
              show Calls _ _ #[_, q.v] _ _
              refine (plwgives_any W8 g X (HB.out.below HB8.out) (HX.out.below HB8.out) q HPA8.out.i HGV.out).mono ?_
              rintro e W9 ⟨rfl, hB9⟩
              have HM9 := Lib.hid (HM8.out.below hB9)
              have HPA9 := Lib.hid (HPA8.out.below hB9)
              have HB9 := Lib.hid (HB8.out.then hB9)
              have HK9 := Lib.hid (HK8.out.trans (KeepG.of_below hB9))
              clear hB9 d0 d1 d2 d3 d4 d5 d6 d7 d8 HM8 HPA8 HB8 HK8
              obtain ⟨gv, hgv⟩ : ∃ gv, Pn.gives X.p.x q.e = gv := ⟨_, rfl⟩
              have HGE := Lib.hid hgv
              rw [hgv]
              clear hgv
              cases gv with
              | false =>
                go_wp2_with fail
                go_roundw
                case rel => exact ⟨i + 1, by omega, by go_num, _, HBO2.out, by (unfold Pn.accStep; rw [if_neg (fun h => by have := h.2.2; rw [HGE.out] at this; cases this)]; exact HM9.out), HK9.out, HB9.out⟩
                case measure => simp [intOf]; omega
              | true =>
                obtain ⟨bv, ov, hgb, hbv, hov, -⟩ := HM9.out.grp
                obtain ⟨-, -, c2, -, -, -, -⟩ := Blk.c3 hgb
                rw [setM_at] at hov
                go_wp2_with fail
                refine (plless_any W9 ov bo.ord hov gq q.e q HPA9.out).mono ?_
                rintro e W10 ⟨u, rfl, ⟨gu, pu, rfl, hpu⟩, hB10⟩
                have HPU := Lib.hid (hpu.below hB10)
                have HM10 := Lib.hid (HM9.out.below hB10)
                have HB10 := Lib.hid (HB9.out.then hB10)
                have HK10 := Lib.hid (HK9.out.trans (KeepG.of_below hB10))
                clear hbv hov hgb c2 hB10 hpu HM9 HPA9 HB9 HK9
                obtain ⟨bv1, ov1, hgb, -, -, -⟩ := HM10.out.grp
                obtain ⟨-, -, e2, -, -, f2, -⟩ := Blk.c3 hgb
                clear hgb
                go_upto_region 11 with fail
                obtain ⟨k1, k2, k3⟩ := HM10.out.setOrd (u := .pointer (some ⟨gu, 0, none⟩)) (l := Pn.lessO bo.ord q.e) ⟨gu, pu, rfl, HPU.out⟩
                rw [setM_setM, setM_at] at k1
                generalize W10.setCell ⟨g0, 2, none⟩ (.pointer (some ⟨gu, 0, none⟩)) = W11 at k1 k2 k3 ⊢
                have HM11 := Lib.hid k1
                have HK11 := Lib.hid (HK10.out.trans k2)
                have HB11 : Hid (Below w0.heap.size w0 W11) := HB10.out.trans k3
                clear k1 k2 k3 HPU HM10 HB10 HK10 e2 f2
                go_wp2_with fail
                go_roundw
                case rel => exact ⟨i + 1, by omega, by go_num, _, HBO2.out, by (unfold Pn.accStep; rw [if_pos ⟨rfl, rfl, HGE.out⟩]; exact HM11.out), HK11.out, HB11.out⟩
                case measure => simp [intOf]; omega
            · have hbi : ¬ (by_ : Int) = (s : Int) := by omega
              go_wp2_with fail
              go_roundw
              case rel => exact ⟨i + 1, by omega, by go_num, _, HBO2.out, by (unfold Pn.accStep; rw [if_neg (fun h => hbs h.2.1.symm)]; exact HM8.out), HK8.out, HB8.out⟩
              case measure => simp [intOf]; omega
        · have hii : ¬ (i : Int) < (L.length : Int) := by omega
          go_wp2_with fail
          go_meet
          case rel =>
            refine ⟨?_, HBR.out⟩
            have e := HBO.out
            rw [List.drop_eq_nil_of_le (by omega)] at e
            rw [← e]
            exact HMR.out
    | false =>
      go_wp2_with fail
      go_meet
      case rel =>
        refine ⟨?_, HB2.out⟩
        rw [← HM1E.out]
        unfold Pn.optA
        rw [HONE.out, if_neg (by rw [hob]; decide), setM_self]
        exact HM2.out
  case rest =>
    have HMC := Lib.hid hcut.out.1
    have HBC := Lib.hid hcut.out.2
    clear hcut HM1 HM2 HW HM HB1 HB2
    obtain ⟨bo2, hbo2⟩ : ∃ bo2, (J s).foldl (Pn.joinStep X.p.x M sz) M1 = bo2 := ⟨_, rfl⟩
    have HFO : Hid (((J s).drop 0).foldl (Pn.joinStep X.p.x M sz) M1 = bo2) := hbo2
    have HFIN : Hid (Pn.opt X.p.x J M s = Pn.optS X.p.x s bo2) := by
      show _ = _
      unfold Pn.opt
      rw [HSZ.out, HM1E.out, hbo2]
    have HBO2S := Lib.hid hbo2
    clear hbo2
    obtain ⟨bvC, ovC, hgb, -, -, -⟩ := HMC.out.grp
    obtain ⟨c0, -⟩ := Blk.c3 hgb
    clear hgb
    go_upto_region 13 with fail
    clear c0
    go_loopw [80] (fun iv wr => ∃ (i : Nat), i ≤ (J s).length ∧ iv = .int .i64 (i : Int) ∧ Hid (∃ bo, ((J s).drop i).foldl (Pn.joinStep X.p.x M sz) bo = bo2 ∧ OptSt wr w0.heap.size gm N J (Pn.setM M s bo) all s G g0 ja jc ∧ Below w0.heap.size w0 wr)) (fun iv _ => (J s).length - (intOf iv).toNat)
    case atStart => exact ⟨0, Nat.zero_le _, by go_num, M1, HFO.out, HMC.out, HBC.out⟩
    case round =>
      obtain ⟨i, hi, rfl, HJ2⟩ := hrel
      obtain ⟨bo, hbo, hMr, hBr⟩ := HJ2.out
      have HBO := Lib.hid hbo
      have HMR := Lib.hid hMr
      have HBR := Lib.hid hBr
      clear HJ2 hbo hMr hBr
      by_cases hlt : i < (J s).length
      · have hii : (i : Int) < ((J s).length : Int) := by omega
        obtain ⟨bv, ov, hgb, -, -, hrow⟩ := HMR.out.grp
        obtain ⟨bb, oo, rfl, -⟩ := hrow.row.range hlt
        have HRW := Lib.hid hrow.row
        obtain ⟨j, hj⟩ : ∃ j, (J s)[i] = j := ⟨_, rfl⟩
        have HJE := Lib.hid hj
        have HBO2 : Hid (((J s).drop (i + 1)).foldl (Pn.joinStep X.p.x M sz) (Pn.joinStep X.p.x M sz bo j) = bo2) := by
          show _ = _
          rw [← HBO.out, List.drop_eq_getElem_cons hlt, List.foldl_cons, hj]
        obtain ⟨ha1, ha2, hb1, hb2, hn1, hn2, hs1, hs2⟩ := HJ.out j (by rw [← hj]; exact List.getElem_mem hlt)
        have HN1 : Hid (j.1 ≠ s) := hn1
        have HN2 : Hid (j.2 ≠ s) := hn2
        have HS1 : Hid (∃ l1, (M j.1).best = some l1) := Option.isSome_iff_exists.1 hs1
        have HS2 : Hid (∃ l2, (M j.2).best = some l2) := Option.isSome_iff_exists.1 hs2
        clear hrow hgb hj hn1 hn2 hs1 hs2
        go_upto_region 15 with (first
          | (refine wpList_load_jn_at rfl (.tmp 82) rfl HRW.out hlt j HJE.out rfl ?_)
          | (refine wpList_alloc_jn rfl rfl ?_; intro W5 hb5 hz5 hB5)
          | (refine wpList_store_jn rfl rfl (.tmp 15) (.tmp 83) rfl _ rfl j rfl hb5 ?_; intro W6 hb6 hg6))
        have hB6 : Below wr.heap.size wr W6.drew := (below_of_grown hB5 hg6 (Nat.le_refl _) (by omega)).drewR
        obtain ⟨gj, hgj⟩ : ∃ gj, wr.heap.size = gj := ⟨_, rfl⟩
        rw [hgj] at hb6 ⊢
        have HJB : Hid (Blk W6.drew gj 82 [.int .u8 j.1, .int .u8 j.2]) := hb6.drew
        have HM6 := Lib.hid (HMR.out.below hB6)
        have HB6 := Lib.hid (HBR.out.then hB6)
        clear hb5 hz5 hB5 hb6 hg6 hB6 hgj HRW HJE HMR HBR
        obtain ⟨f1, b1, o1, v1, hmp1, hf1, -, -, -⟩ := HM6.out.at_ ha1 ha2
        obtain ⟨f2, b2, o2, v2, hmp2, hf2, -, -, -⟩ := HM6.out.at_ hb1 hb2
        obtain ⟨g1, hg1⟩ : ∃ g1, G j.1 = g1 := ⟨_, rfl⟩
        obtain ⟨g2, hg2⟩ : ∃ g2, G j.2 = g2 := ⟨_, rfl⟩
        rw [hg1] at hf1
        rw [hg2] at hf2
        have HG1 := Lib.hid hg1
        have HG2 := Lib.hid hg2
        obtain ⟨d0, d1, -⟩ := Blk.c2 HJB.out
        clear hg1 hg2
        refine wp_region_plan (.take 0 (.take 1 (.take 2 (.take 3 (.take 4 (.take 5 (.take 6 (.take 7 (.take 8 (.take 9 .fin)))))))))) (by kernel_rfl) (by kernel_rfl) (by kernel_rfl) (by kernel_rfl) ?_
        repeat' (first | (refine hZ _ _ ?_; clear hZ) | (refine hZ _ ?_; clear hZ) | (refine hZ ?_; clear hZ) | rw [again_nil] | rw [walk_fin] | ((first | rw [walk_take] | rw [walk_run] | rw [again_cons]); intro Z hZ; simp only [sel, List.getElem?_toArray, List.getElem?_cons_zero, List.getElem?_cons_succ]; go_wp2_with (at_lookup; first | (refine wpList_memo_at rfl (.tmp 84) (.tmp 86) rfl rfl hmp1 j.1 rfl (by omega) (HZ.out _) g1 hf1 ?_) | (refine wpList_memo_at rfl (.tmp 88) (.tmp 90) rfl rfl hmp2 j.2 rfl (by omega) (HZ.out _) g2 hf2 ?_))))
        go_upto_region 16 with fail
        clear hmp1 hf1 hmp2 hf2 d0 d1 f1 f2 b1 o1 v1 b2 o2 v2
        generalize W6.drew = W7 at HJB HM6 HB6 ⊢
        have hd : Below W7.heap.size W7 W7.drew := (Below.refl _ _).drewR
        have HM7 := Lib.hid (HM6.out.below hd)
        have HB7 := Lib.hid (HB6.out.then hd)
        have HJ7 := Lib.hid (HJB.out.below hd)
        clear hd HM6 HB6 HJB
        obtain ⟨-, b1, o1, v1, -, -, hbk1, hbv1, -⟩ := HM7.out.at_ ha1 ha2
        obtain ⟨-, b2, o2, v2, -, -, hbk2, hbv2, -⟩ := HM7.out.at_ hb1 hb2
        rw [HG1.out] at hbk1
        rw [HG2.out] at hbk2
        obtain ⟨l1, hl1⟩ := HS1.out
        obtain ⟨l2, hl2⟩ := HS2.out
        rw [setM_ne _ HN1.out, hl1] at hbv1
        rw [setM_ne _ HN2.out, hl2] at hbv2
        obtain ⟨gl, pl, rfl, hpl⟩ := hbv1
        obtain ⟨gr, pr, rfl, hpr⟩ := hbv2
        obtain ⟨bv, ov, hgb, hbv, -, -⟩ := HM7.out.grp
        rw [setM_at] at hbv
        obtain ⟨-, c1, -, -, -, -, -⟩ := Blk.c3 hgb
        obtain ⟨-, d1, -, -, -, -, -⟩ := Blk.c3 hbk1
        obtain ⟨-, e1, -, -, -, -, -⟩ := Blk.c3 hbk2
        have HPL := Lib.hid hpl
        have HPR := Lib.hid hpr
        have HBV := Lib.hid hbv
        have HL1 := Lib.hid hl1
        have HL2 := Lib.hid hl2
        clear hgb hbk1 hbk2 hpl hpr hbv hl1 hl2
        refine wp_region_plan (.take 0 (.take 1 (.take 2 (.take 3 (.take 4 (.take 5 (.take 6 (.take 7 (.take 8 (.take 9 (.take 10 (.take 11 (.take 12 (.take 13 (.take 14 (.take 15 (.run 16 [0, 1, 2, 3, 4] (.run 17 [0] (.take 18 (.take 19 (.run 20 [] .fin))))))))))))))))))))) (by kernel_rfl) (by kernel_rfl) (by kernel_rfl) (by kernel_rfl) ?_
        repeat' (first | (refine hZ _ _ ?_; clear hZ) | (refine hZ _ ?_; clear hZ) | (refine hZ ?_; clear hZ) | rw [again_nil] | rw [walk_fin] | ((first | rw [walk_take] | rw [walk_run] | rw [again_cons]); intro Z hZ; simp only [sel, List.getElem?_toArray, List.getElem?_cons_zero, List.getElem?_cons_succ]; go_wp2_with (refine wpList_load_jn rfl (.tmp 15) rfl gj rfl HJ7.out ?_)))
        refine (pljoin_any W7.drew g X (HB.out.below HB7.out) (HX.out.below HB7.out) j (by omega) (by omega) (by omega) gl gr l1 l2 pl pr HPL.out HPR.out sz).mono ?_
        rintro e W8 ⟨u, rfl, ⟨gu, pu, rfl, hpu⟩, hB8⟩
        have HPU := Lib.hid hpu
        have HM8 := Lib.hid (HM7.out.below hB8)
        have HB8 := Lib.hid (HB7.out.then hB8)
        have HJ8 := Lib.hid (HJ7.out.below hB8)
        have HPR8 := Lib.hid (HPR.out.below hB8)
        have HBV8 := Lib.hid (HBV.out.below hB8)
        replace c1 := cell_later hB8 c1
        clear hpu hB8 HM7 HB7 HJ7 HPL HPR HBV d1 e1
        go_wp2_with fail
        repeat' (first | (refine hZ _ _ ?_; clear hZ) | (refine hZ _ ?_; clear hZ) | (refine hZ ?_; clear hZ) | rw [again_nil] | rw [walk_fin] | ((first | rw [walk_take] | rw [walk_run] | rw [again_cons]); intro Z hZ; simp only [sel, List.getElem?_toArray, List.getElem?_cons_zero, List.getElem?_cons_succ]; go_wp2_with (fail)))
        refine (plless_any W8 bv bo.best HBV8.out gu _ pu HPU.out).mono ?_
        rintro e W9 ⟨u, rfl, ⟨gv, pv, rfl, hpv⟩, hB9⟩
        have HPV := Lib.hid (hpv.below hB9)
        have HM9 := Lib.hid (HM8.out.below hB9)
        have HB9 := Lib.hid (HB8.out.then hB9)
        have HJ9 := Lib.hid (HJ8.out.below hB9)
        clear hpv hB9 HPU HM8 HB8 HJ8 HPR8 HBV8 c1
        obtain ⟨bv1, ov1, hgb, -, -, -⟩ := HM9.out.grp
        obtain ⟨-, c1, -, -, e1, -, -⟩ := Blk.c3 hgb
        clear hgb
        go_wp2_with fail
        repeat' (first | (refine hZ _ _ ?_; clear hZ) | (refine hZ _ ?_; clear hZ) | (refine hZ ?_; clear hZ) | rw [again_nil] | rw [walk_fin] | ((first | rw [walk_take] | rw [walk_run] | rw [again_cons]); intro Z hZ; simp only [sel, List.getElem?_toArray, List.getElem?_cons_zero, List.getElem?_cons_succ]; go_wp2_with (fail)))
        go_upto_region 17 with fail
        obtain ⟨k1, k2, k3⟩ := HM9.out.setBest (u := .pointer (some ⟨gv, 0, none⟩)) (l := Pn.lessO bo.best (Pn.join X.p.x j l1 l2 sz)) ⟨gv, pv, rfl, HPV.out⟩
        rw [setM_setM, setM_at] at k1
        generalize W9.setCell ⟨g0, 1, none⟩ (.pointer (some ⟨gv, 0, none⟩)) = W10 at k1 k2 k3 ⊢
        have HM10 := Lib.hid k1
        have HJ10 := Lib.hid (HJ9.out.keepG (by decide) k2)
        have HB10 : Hid (Below w0.heap.size w0 W10) := HB9.out.trans k3
        clear k1 k2 k3 HPV HM9 HJ9 HB9 c1 e1
        obtain ⟨-, b1, o1, v1, -, -, hbk1, -, hov1⟩ := HM10.out.at_ ha1 ha2
        rw [HG1.out] at hbk1
        rw [setM_ne _ HN1.out] at hov1
        obtain ⟨-, -, c2, -, -, -, -⟩ := Blk.c3 hbk1
        clear hbk1
        cases hlo : (M j.1).ord with
        | none =>
          rw [hlo] at hov1
          have hov1 : o1 = .pointer none := hov1
          subst hov1
          have HST : Hid (Pn.joinStep X.p.x M sz bo j = ⟨some (Pn.lessO bo.best (Pn.join X.p.x j l1 l2 sz)), bo.ord⟩) := by
            show _ = _
            unfold Pn.joinStep
            rw [HL1.out, HL2.out, hlo]
            rfl
          rw [HST.out] at HBO2
          clear hlo
          go_wp2_with fail
          go_roundw
          case rel => exact ⟨i + 1, by omega, by go_num, _, HBO2.out, HM10.out, HB10.out⟩
          case measure => simp [intOf]; omega
        | some l =>
          rw [hlo] at hov1
          obtain ⟨go, po, rfl, hpo⟩ := hov1
          have HST : Hid (Pn.joinStep X.p.x M sz bo j = ⟨some (Pn.lessO bo.best (Pn.join X.p.x j l1 l2 sz)), some (Pn.lessO bo.ord (Pn.join X.p.x j l l2 sz))⟩) := by
            show _ = _
            unfold Pn.joinStep
            rw [HL1.out, HL2.out, hlo]
            rfl
          have HLO := Lib.hid hlo
          clear hpo hlo
          go_upto_region 18 with fail
          have hd : Below W10.heap.size W10 W10.drew := (Below.refl _ _).drewR
          have HM11 := Lib.hid (HM10.out.below hd)
          have HB11 := Lib.hid (HB10.out.then hd)
          have HJ11 := Lib.hid (HJ10.out.below hd)
          clear hd c2 HM10 HB10 HJ10
          obtain ⟨-, b1, o1, v1, -, -, hbk1, -, hov1⟩ := HM11.out.at_ ha1 ha2
          obtain ⟨-, b2, o2, v2, -, -, hbk2, hbv2, -⟩ := HM11.out.at_ hb1 hb2
          rw [HG1.out] at hbk1
          rw [HG2.out] at hbk2
          rw [setM_ne _ HN1.out, HLO.out] at hov1
          rw [setM_ne _ HN2.out, HL2.out] at hbv2
          obtain ⟨gl, pl, rfl, hpl⟩ := hov1
          obtain ⟨gr, pr, rfl, hpr⟩ := hbv2
          obtain ⟨bv, ov, hgb, -, hov, -⟩ := HM11.out.grp
          rw [setM_at] at hov
          obtain ⟨-, -, c2, -, -, -, -⟩ := Blk.c3 hgb
          obtain ⟨-, -, d2, -, -, -, -⟩ := Blk.c3 hbk1
          obtain ⟨-, e1, -, -, -, -, -⟩ := Blk.c3 hbk2
          have HPL := Lib.hid hpl
          have HPR := Lib.hid hpr
          have HOV := Lib.hid hov
          clear hgb hbk1 hbk2 hpl hpr hov
          refine wp_region_plan (.take 0 (.take 1 (.take 2 (.take 3 (.take 4 (.take 5 (.take 6 (.take 7 (.take 8 (.take 9 (.take 10 (.take 11 (.take 12 (.take 13 (.take 14 (.take 15 (.run 16 [0, 1, 2, 3, 4] (.run 17 [0] (.take 18 (.take 19 (.run 20 [] .fin))))))))))))))))))))) (by kernel_rfl) (by kernel_rfl) (by kernel_rfl) (by kernel_rfl) ?_
          repeat' (first | (refine hZ _ _ ?_; clear hZ) | (refine hZ _ ?_; clear hZ) | (refine hZ ?_; clear hZ) | rw [again_nil] | rw [walk_fin] | ((first | rw [walk_take] | rw [walk_run] | rw [again_cons]); intro Z hZ; simp only [sel, List.getElem?_toArray, List.getElem?_cons_zero, List.getElem?_cons_succ]; go_wp2_with (refine wpList_load_jn rfl (.tmp 15) rfl gj rfl HJ11.out ?_)))
          refine (pljoin_any W10.drew g X (HB.out.below HB11.out) (HX.out.below HB11.out) j (by omega) (by omega) (by omega) gl gr l l2 pl pr HPL.out HPR.out sz).mono ?_
          rintro e W12 ⟨u, rfl, ⟨gu, pu, rfl, hpu⟩, hB12⟩
          have HPU := Lib.hid hpu
          have HM12 := Lib.hid (HM11.out.below hB12)
          have HB12 := Lib.hid (HB11.out.then hB12)
          have HOV12 := Lib.hid (HOV.out.below hB12)
          replace c2 := cell_later hB12 c2
          clear hpu hB12 HM11 HB11 HJ11 HPL HPR HOV d2 e1
          go_wp2_with fail
          repeat' (first | (refine hZ _ _ ?_; clear hZ) | (refine hZ _ ?_; clear hZ) | (refine hZ ?_; clear hZ) | rw [again_nil] | rw [walk_fin] | ((first | rw [walk_take] | rw [walk_run] | rw [again_cons]); intro Z hZ; simp only [sel, List.getElem?_toArray, List.getElem?_cons_zero, List.getElem?_cons_succ]; go_wp2_with (fail)))
          refine (plless_any W12 ov bo.ord HOV12.out gu _ pu HPU.out).mono ?_
          rintro e W13 ⟨u, rfl, ⟨gv, pv, rfl, hpv⟩, hB13⟩
          have HPV := Lib.hid (hpv.below hB13)
          have HM13 := Lib.hid (HM12.out.below hB13)
          have HB13 := Lib.hid (HB12.out.then hB13)
          clear hpv hB13 HPU HM12 HB12 HOV12 c2
          obtain ⟨bv1, ov1, hgb, -, -, -⟩ := HM13.out.grp
          obtain ⟨-, -, c2, -, -, e2, -⟩ := Blk.c3 hgb
          clear hgb
          go_wp2_with fail
          repeat' (first | (refine hZ _ _ ?_; clear hZ) | (refine hZ _ ?_; clear hZ) | (refine hZ ?_; clear hZ) | rw [again_nil] | rw [walk_fin] | ((first | rw [walk_take] | rw [walk_run] | rw [again_cons]); intro Z hZ; simp only [sel, List.getElem?_toArray, List.getElem?_cons_zero, List.getElem?_cons_succ]; go_wp2_with (fail)))
          go_upto_region 19 with fail
          obtain ⟨k1, k2, k3⟩ := HM13.out.setOrd (u := .pointer (some ⟨gv, 0, none⟩)) (l := Pn.lessO bo.ord (Pn.join X.p.x j l l2 sz)) ⟨gv, pv, rfl, HPV.out⟩
          rw [setM_setM, setM_at] at k1
          generalize W13.setCell ⟨g0, 2, none⟩ (.pointer (some ⟨gv, 0, none⟩)) = W14 at k1 k2 k3 ⊢
          have HM14 := Lib.hid k1
          have HB14 : Hid (Below w0.heap.size w0 W14) := HB13.out.trans k3
          clear k1 k2 k3 HPV HM13 HB13 c2 e2
          rw [HST.out] at HBO2
          go_wp2_with fail
          go_roundw
          case rel => exact ⟨i + 1, by omega, by go_num, _, HBO2.out, HM14.out, HB14.out⟩
          case measure => simp [intOf]; omega
      · have hii : ¬ (i : Int) < ((J s).length : Int) := by omega
        have HF : Hid (bo = bo2) := by
          show _ = _
          rw [← HBO.out, List.drop_eq_nil_of_le (by omega)]
          rfl
        rw [HF.out] at HMR
        cases mu with
        | false =>
          have HFX : Hid (Pn.opt X.p.x J M s = bo2) := by
            show _ = _
            rw [HFIN.out]
            unfold Pn.optS
            rw [HMU.out, if_neg (fun h => by cases h.1)]
          go_wp2_with fail
          (try simp only [Exit.inBlock, Exit.then]); refine bodyPost_end (results_none rfl _ _ _) rfl ?_
          exact ⟨rfl, by rw [HFX.out]; exact HMR.out, HBR.out⟩
        | true =>
          cases hsub : Pn.sub by_ s with
          | false =>
            have hbit : (bits BinOp.andNot IntKind.u8 (by_ : Nat) (s : Nat) == 0) = false := by rw [andNot8 by_ hby16 s hs16]; exact hsub
            have HFX : Hid (Pn.opt X.p.x J M s = bo2) := by
              show _ = _
              rw [HFIN.out]
              unfold Pn.optS
              rw [HMU.out, HBY.out, if_neg (fun h => by rw [hsub] at h; cases h.2)]
            clear hsub
            go_wp2_with fail
            (try simp only [Exit.inBlock, Exit.then]); refine bodyPost_end (results_none rfl _ _ _) rfl ?_
            exact ⟨rfl, by rw [HFX.out]; exact HMR.out, HBR.out⟩
          | true =>
            have hbit : (bits BinOp.andNot IntKind.u8 (by_ : Nat) (s : Nat) == 0) = true := by rw [andNot8 by_ hby16 s hs16]; exact hsub
            have HFX : Hid (Pn.opt X.p.x J M s = ⟨bo2.best, some (Pn.lessO bo2.ord (Pn.mkSort (bo2.best.getD Pl.nil) sz))⟩) := by
              show _ = _
              rw [HFIN.out]
              unfold Pn.optS
              rw [HMU.out, HBY.out, HSZ.out, if_pos ⟨rfl, hsub⟩]
            clear hsub
            have hbs : bo2.best.isSome := by
              rw [← HBO2S.out]
              refine Pn.fold_some _ (fun g a => rfl) _ _ ?_
              rcases HNE.out with ⟨f, e1, e2⟩ | ⟨e1, e2⟩
              · refine .inl ?_
                rw [← HM1E.out]
                unfold Pn.optA
                rw [e1]
                exact Pn.fold_some _ (fun g a => rfl) _ _ (.inr (Pn.access_ne _ _ _))
              · exact .inr e2
            obtain ⟨lb, hlb⟩ := Option.isSome_iff_exists.1 hbs
            have HLB := Lib.hid hlb
            clear hbs hlb
            go_upto_region 21 with fail
            have hd : Below wr.heap.size wr wr.drew := (Below.refl _ _).drewR
            have HMD := Lib.hid (HMR.out.below hd)
            have HBD := Lib.hid (HBR.out.then hd)
            clear hd hbit
            obtain ⟨bv, ov, hgb, hbv, hov, -⟩ := HMD.out.grp
            rw [setM_at, HLB.out] at hbv
            rw [setM_at] at hov
            obtain ⟨gp, p, rfl, hp⟩ := hbv
            obtain ⟨-, c1, c2, -, -, -, -⟩ := Blk.c3 hgb
            have HP := Lib.hid hp
            have HOV := Lib.hid hov
            obtain ⟨a0, a1, a2, a3, a4, a5, a6, a7, a8⟩ := Blk.pm hp.b
            clear hgb hp hov
            refine wp_region_plan (.take 0 (.take 1 (.take 2 (.take 3 (.take 4 (.take 5 (.take 6 (.take 7 (.take 8 (.take 9 (.take 10 (.take 11 (.take 12 (.take 14 (.take 15 (.take 16 (.take 17 (.take 18 (.take 19 (.take 20 (.fork (.run 13 [0, 1, 2, 3, 4, 14, 15, 16, 17, 18, 19, 20] (.run 21 [0, 1, 2, 3, 4, 14] (.take 22 (.run 23 [0, 1, 2, 3, 4] (.run 24 [0] (.take 25 (.take 26 (.run 27 [] .fin)))))))) (.run 21 [0, 1, 2, 3, 4, 5, 6, 7, 8, 9, 10, 11, 12, 14] (.run 13 [0, 1, 2, 3, 4, 14] (.take 22 (.run 23 [0, 1, 2, 3, 4] (.run 24 [0] (.take 25 (.take 26 (.run 27 [] .fin))))))))))))))))))))))))))))) (by kernel_rfl) (by kernel_rfl) (by kernel_rfl) (by kernel_rfl) ?_
            repeat' (first | (refine hZ _ _ ?_; clear hZ) | (refine hZ _ ?_; clear hZ) | (refine hZ ?_; clear hZ) | rw [again_nil] | rw [walk_fin] | ((first | rw [walk_take] | rw [walk_run] | rw [again_cons]); intro Z hZ; simp only [sel, List.getElem?_toArray, List.getElem?_cons_zero, List.getElem?_cons_succ]; go_wp2_with (fail)))
            rw [walk_fork]
            refine ⟨?_, ?_⟩
            · repeat' (first | (refine hZ _ _ ?_; clear hZ) | (refine hZ _ ?_; clear hZ) | (refine hZ ?_; clear hZ) | rw [again_nil] | rw [walk_fin] | ((first | rw [walk_take] | rw [walk_run] | rw [again_cons]); intro Z hZ; simp only [sel, List.getElem?_toArray, List.getElem?_cons_zero, List.getElem?_cons_succ]; go_wp2_with (fail)))
              refine (csort_any wr.drew p.cost sz).mono ?_
              rintro e W1 ⟨rfl, hB1⟩
              have HMS := Lib.hid (HMD.out.below hB1)
              have HBS := Lib.hid (HBD.out.then hB1)
              have HPS := Lib.hid (HP.out.below hB1)
              have HOS := Lib.hid (HOV.out.below hB1)
              replace c1 := cell_later hB1 c1
              replace c2 := cell_later hB1 c2
              obtain ⟨ck, hck⟩ : ∃ k, Pn.sort p.cost sz = k := ⟨_, rfl⟩
              have HCK := Lib.hid hck
              rw [hck]
              clear hck a0 a1 a2 a3 a4 a5 a6 a7 a8 hB1 HMD HBD HP HOV
              obtain ⟨a0, a1, a2, a3, a4, a5, a6, a7, a8⟩ := Blk.pm HPS.out.b
              have hBL : Below W1.heap.size W1 (W1.alloc (.cells #[.int .i64 p.op, .int .i64 p.fr, .int .i64 p.ix, .slice p.ea p.eq.length p.ec, .int .i64 p.low, .int .i64 p.high, .int .i64 p.cost, .int .i64 p.rows, .slice p.ka p.kids.length p.kc] 44)) := Below.alloc1 _ _
              have c2' := cell_later hBL c2
              clear hBL
              have c2'' := cell_later (Below.alloc1 _ (.cells #[.int .i64 5, .int .i64 (-1), .int .i64 (-1), .slice none 0 0, .int .i64 (-1), .int .i64 (-1), .int .i64 ck, .int .i64 sz, .slice (some ⟨W1.heap.size, 0, none⟩) 1 1] 44)) c2'
              go_wp2_with fail
              repeat' (first | (refine hZ _ _ ?_; clear hZ) | (refine hZ _ ?_; clear hZ) | (refine hZ ?_; clear hZ) | rw [again_nil] | rw [walk_fin] | ((first | rw [walk_take] | rw [walk_run] | rw [again_cons]); intro Z hZ; simp only [sel, List.getElem?_toArray, List.getElem?_cons_zero, List.getElem?_cons_succ]; go_wp2_with (fail)))
              go_wp2_with fail
              repeat' (first | (refine hZ _ _ ?_; clear hZ) | (refine hZ _ ?_; clear hZ) | (refine hZ ?_; clear hZ) | rw [again_nil] | rw [walk_fin] | ((first | rw [walk_take] | rw [walk_run] | rw [again_cons]); intro Z hZ; simp only [sel, List.getElem?_toArray, List.getElem?_cons_zero, List.getElem?_cons_succ]; go_wp2_with (fail)))
              clear a0 a1 a2 a3 a4 a5 a6 a7 a8 c1 c2 c2' c2''
              generalize hW9 : ((World.alloc W1 (.cells _ _)).alloc (.cells _ _)) = W9
              obtain ⟨ba9, bb9, hz9, hB9⟩ := fresh2 hW9
              clear hW9
              have HPL := Lib.hid (sort_at (HPS.out.i.later hB9) ba9 bb9)
              have HM9 := Lib.hid (HMS.out.below hB9)
              have HB9 := Lib.hid (HBS.out.then hB9)
              have HOV9 := Lib.hid (HOS.out.below hB9)
              have HMK : Hid (Pn.mkSort (bo2.best.getD Pl.nil) sz = .mk 5 (-1) (-1) [] (-1) (-1) ck sz [p.e]) := by
                show _ = _
                rw [HLB.out]
                unfold Pn.mkSort
                rw [← HCK.out, HPS.out.cost, HPS.out.e]
                rfl
              clear ba9 bb9 hz9 hB9 HMS HBS HOS
              refine (plless_any W9 ov bo2.ord HOV9.out _ _ _ HPL.out).mono ?_
              rintro e W10 ⟨u, rfl, ⟨gv, pv, rfl, hpv⟩, hB10⟩
              have HPV := Lib.hid (hpv.below hB10)
              have HM10 := Lib.hid (HM9.out.below hB10)
              have HB10 := Lib.hid (HB9.out.then hB10)
              clear hpv hB10 HM9 HB9 HOV9 HPL
              obtain ⟨bv1, ov1, hgb, -, -, -⟩ := HM10.out.grp
              obtain ⟨-, -, c2, -, -, e2, -⟩ := Blk.c3 hgb
              clear hgb
              go_wp2_with fail
              repeat' (first | (refine hZ _ _ ?_; clear hZ) | (refine hZ _ ?_; clear hZ) | (refine hZ ?_; clear hZ) | rw [again_nil] | rw [walk_fin] | ((first | rw [walk_take] | rw [walk_run] | rw [again_cons]); intro Z hZ; simp only [sel, List.getElem?_toArray, List.getElem?_cons_zero, List.getElem?_cons_succ]; go_wp2_with (fail)))
              go_wp2_with fail
              (try simp only [Exit.inBlock, Exit.then])
              refine bodyPost_end (results_none rfl _ _ _) rfl ?_
              obtain ⟨k1, k2, k3⟩ := HM10.out.setOrd (u := .pointer (some ⟨gv, 0, none⟩)) (l := Pn.lessO bo2.ord (.mk 5 (-1) (-1) [] (-1) (-1) ck sz [p.e])) ⟨gv, pv, rfl, HPV.out⟩
              rw [setM_setM, setM_at] at k1
              exact ⟨rfl, by rw [HFX.out, HMK.out]; exact k1, HB10.out.trans k3⟩
            · have hBL : Below wr.drew.heap.size wr.drew (wr.alloc (.cells #[.int .i64 p.op, .int .i64 p.fr, .int .i64 p.ix, .slice p.ea p.eq.length p.ec, .int .i64 p.low, .int .i64 p.high, .int .i64 p.cost, .int .i64 p.rows, .slice p.ka p.kids.length p.kc] 44)).drew := by show Below wr.drew.heap.size wr.drew (wr.drew.alloc _); exact Below.alloc1 _ _
              have b9 : Blk (wr.alloc (.cells #[.int .i64 p.op, .int .i64 p.fr, .int .i64 p.ix, .slice p.ea p.eq.length p.ec, .int .i64 p.low, .int .i64 p.high, .int .i64 p.cost, .int .i64 p.rows, .slice p.ka p.kids.length p.kc] 44)).drew wr.heap.size 44 p.cells := (Blk.new wr _ _).drew
              have c2' := cell_later hBL c2
              have c1' := cell_later hBL c1
              have a6' := cell_later hBL a6
              have HBL := Lib.hid hBL
              have HB9X := Lib.hid b9
              clear hBL b9
              repeat' (first | (refine hZ _ _ ?_; clear hZ) | (refine hZ _ ?_; clear hZ) | (refine hZ ?_; clear hZ) | rw [again_nil] | rw [walk_fin] | ((first | rw [walk_take] | rw [walk_run] | rw [again_cons]); intro Z hZ; simp only [sel, List.getElem?_toArray, List.getElem?_cons_zero, List.getElem?_cons_succ]; go_wp2_with (fail)))
              refine (csort_any _ p.cost sz).mono ?_
              rintro e W1 ⟨rfl, hB1⟩
              have HMS := Lib.hid (HMD.out.below (HBL.out.then hB1))
              have HBS := Lib.hid (HBD.out.then (HBL.out.then hB1))
              have HPS := Lib.hid (HP.out.below (HBL.out.then hB1))
              have HOS := Lib.hid (HOV.out.below (HBL.out.then hB1))
              have HBX := Lib.hid (HB9X.out.below hB1)
              replace c2' := cell_later hB1 c2'
              obtain ⟨ck, hck⟩ : ∃ k, Pn.sort p.cost sz = k := ⟨_, rfl⟩
              have HCK := Lib.hid hck
              rw [hck]
              clear hck a0 a1 a2 a3 a4 a5 a6 a7 a8 a6' c1' c1 c2 hB1 HMD HBD HP HOV HB9X HBL
              have c2'' := cell_later (Below.alloc1 _ (.cells #[.int .i64 5, .int .i64 (-1), .int .i64 (-1), .slice none 0 0, .int .i64 (-1), .int .i64 (-1), .int .i64 ck, .int .i64 sz, .slice (some ⟨wr.heap.size, 0, none⟩) 1 1] 44)) c2'
              go_wp2_with fail
              repeat' (first | (refine hZ _ _ ?_; clear hZ) | (refine hZ _ ?_; clear hZ) | (refine hZ ?_; clear hZ) | rw [again_nil] | rw [walk_fin] | ((first | rw [walk_take] | rw [walk_run] | rw [again_cons]); intro Z hZ; simp only [sel, List.getElem?_toArray, List.getElem?_cons_zero, List.getElem?_cons_succ]; go_wp2_with (fail)))
              go_wp2_with fail
              repeat' (first | (refine hZ _ _ ?_; clear hZ) | (refine hZ _ ?_; clear hZ) | (refine hZ ?_; clear hZ) | rw [again_nil] | rw [walk_fin] | ((first | rw [walk_take] | rw [walk_run] | rw [again_cons]); intro Z hZ; simp only [sel, List.getElem?_toArray, List.getElem?_cons_zero, List.getElem?_cons_succ]; go_wp2_with (fail)))
              clear c2' c2''
              generalize hW9 : World.alloc W1 (.cells _ _) = W9
              obtain ⟨ba9, hz9, hB9⟩ := fresh1 hW9
              clear hW9
              have HPL := Lib.hid (sort_at (HPS.out.i.later hB9) (HBX.out.below hB9) ba9)
              have HM9 := Lib.hid (HMS.out.below hB9)
              have HB9 := Lib.hid (HBS.out.then hB9)
              have HOV9 := Lib.hid (HOS.out.below hB9)
              have HMK : Hid (Pn.mkSort (bo2.best.getD Pl.nil) sz = .mk 5 (-1) (-1) [] (-1) (-1) ck sz [p.e]) := by
                show _ = _
                rw [HLB.out]
                unfold Pn.mkSort
                rw [← HCK.out, HPS.out.cost, HPS.out.e]
                rfl
              clear ba9 hz9 hB9 HMS HBS HOS HBX
              refine (plless_any W9 ov bo2.ord HOV9.out _ _ _ HPL.out).mono ?_
              rintro e W10 ⟨u, rfl, ⟨gv, pv, rfl, hpv⟩, hB10⟩
              have HPV := Lib.hid (hpv.below hB10)
              have HM10 := Lib.hid (HM9.out.below hB10)
              have HB10 := Lib.hid (HB9.out.then hB10)
              clear hpv hB10 HM9 HB9 HOV9 HPL
              obtain ⟨bv1, ov1, hgb, -, -, -⟩ := HM10.out.grp
              obtain ⟨-, -, c2, -, -, e2, -⟩ := Blk.c3 hgb
              clear hgb
              go_wp2_with fail
              repeat' (first | (refine hZ _ _ ?_; clear hZ) | (refine hZ _ ?_; clear hZ) | (refine hZ ?_; clear hZ) | rw [again_nil] | rw [walk_fin] | ((first | rw [walk_take] | rw [walk_run] | rw [again_cons]); intro Z hZ; simp only [sel, List.getElem?_toArray, List.getElem?_cons_zero, List.getElem?_cons_succ]; go_wp2_with (fail)))
              go_wp2_with fail
              (try simp only [Exit.inBlock, Exit.then])
              refine bodyPost_end (results_none rfl _ _ _) rfl ?_
              obtain ⟨k1, k2, k3⟩ := HM10.out.setOrd (u := .pointer (some ⟨gv, 0, none⟩)) (l := Pn.lessO bo2.ord (.mk 5 (-1) (-1) [] (-1) (-1) ck sz [p.e])) ⟨gv, pv, rfl, HPV.out⟩
              rw [setM_setM, setM_at] at k1
              exact ⟨rfl, by rw [HFX.out, HMK.out]; exact k1, HB10.out.trans k3⟩
end Go.Proofs.YtjdffhonljhpcaaGreat
end

section
/-
  What is known of tables; a planner's world that grows.
-/
namespace Go.Proofs.YtjdffhonljhpcaaGreat
set_option linter.unusedSimpArgs false
set_option linter.unusedVariables false
open Go.RowKit

/-- What is known of a table. -/
structure Stt where
  rows : Int
  a : Option Addr
  cols : List Cs
  c : Nat
def Stt.cells (x : Stt) : List Value := [.int .i64 x.rows, .slice x.a x.cols.length x.c]
def Stt.v (x : Stt) : Value := .agg x.cells.toArray
def Stt.nul : Stt := ⟨0, none, [], 0⟩
instance : Inhabited Stt := ⟨Stt.nul⟩
def eStt : Elem Stt where
  e := 54
  t := 37
  sz := 2
  bytes := 32
  zero := .agg #[.int .i64 0, .slice none 0 0]
  code := Stt.cells
  pos := by decide
  few := by decide
  len := fun _ => rfl
  one := by
    intro x u hu
    simp [Stt.cells] at hu
    rcases hu with rfl | rfl <;> rfl
  zsz := rfl
  info := by kernel_rfl
  under := Tryz.underlying37
theorem stt_info : (Tryz.prog.info? 54).map (·.size) = some 2 := by kernel_rfl
theorem stt_zero (W : World) : (zeroValue 54).run Tryz.prog W = .ok Stt.nul.v W := (zero_of_info (P := Tryz.prog) (t := 54) (v := Stt.nul.v) (n := 2) (by kernel_rfl)).1 W
section
variable {w : World} {ops : Array Oper} {rest : List Oper} {o : Oper} {a : Act} {Q : Exit → Act → World → Prop}
theorem wpList_alloc_stt (hgd : o.guard = none) (hop : o.op = .alloc 54)
    (h : ∀ W, Blk W w.heap.size 54 Stt.nul.cells → w.heap.size + 1 ≤ W.heap.size → Below w.heap.size w W → wpList Tryz.prog ops Q rest (a.put o.dst (.pointer (some ⟨w.heap.size, 0, none⟩))) W) : wpList Tryz.prog ops Q (o :: rest) a w :=
  wpList_alloc_z hgd 54 hop (stt_zero _) fun W hW => by
    obtain ⟨h1, h2, h3⟩ := fresh1 (a := Stt.nul.cells) hW
    exact h W h1 h2 h3
theorem wpList_store_stt (hgd : o.guard = none) (hod : o.dst = none) (x y : Operand) (hop : o.op = .store 54 x y) (g : Nat) (hx : a.eval x = .pointer (some ⟨g, 0, none⟩)) (b : Stt) (hy : a.eval y = b.v) {T0 : TypeId} {old : Stt} (hb : Blk w g T0 old.cells)
    (h : ∀ W, Blk W g T0 b.cells → w.grownBy W (some g) → wpList Tryz.prog ops Q rest a W) : wpList Tryz.prog ops Q (o :: rest) a w :=
  wpList_store_blk hgd hod 54 x y hop g hx b.cells hy hb rfl stt_info (eStt.one b) h
theorem wpList_load_stt_at (hgd : o.guard = none) (x : Operand) (hop : o.op = .load 54 x) {b off : Nat} {L : List Stt} (hr : ERow eStt w (some ⟨b, off, none⟩) L) {j : Nat} (hj : j < L.length) (p : Stt) (hp : L[j] = p) (hx : a.eval x = .pointer (some ⟨b, off + j * 2, none⟩))
    (h : wpList Tryz.prog ops Q rest (a.put o.dst p.v) w) : wpList Tryz.prog ops Q (o :: rest) a w := by
  subst hp
  obtain ⟨b', off', e, hb, hrg⟩ := hr.range hj
  cases e
  exact wpList_load_mid hgd 54 x hop b (off + j * 2) hx L[j].cells _ hrg Tryz.underlying54 rfl stt_info h
end
/-- Tables that can be read. -/
structure SttsIn (w : World) (A : Option Addr) (L : List Stt) : Prop where
  r : ERow eStt w A L
  c : ∀ t ∈ L, CsIn w t.a t.cols
  len : L.length ≤ 1000
theorem SttsIn.below {w W : World} {A : Option Addr} {L : List Stt} (h : SttsIn w A L) (hB : Below w.heap.size w W) : SttsIn W A L := ⟨h.r.below hB, fun t ht => (h.c t ht).below hB, h.len⟩
namespace Pn
/-- What a table's columns add, from place at_ on, of k more. -/
def fillC (x : PX) (t : Stt) (f : Nat) : Nat → Int → List Int × List Cs → List Int × List Cs
  | 0, _, o => o
  | k + 1, at_, o => fillC x t f k (at_ + 1) (o.1 ++ [t.rows], o.2 ++ [t.cols.getD (at_ - b x f).toNat Cs.nul])
def fillT (x : PX) : Nat → List Stt → List Int × List Cs → List Int × List Cs
  | _, [], o => o
  | f, t :: l, o => fillT x (f + 1) l (fillC x t f (endN x f - b x f).toNat (b x f) o)
end Pn
theorem EOwn.keptO {α β : Type} {E : Elem α} {F : Elem β} {w w' : World} {B B' c c' : Nat} {A A' : Option Addr} {L : List α} {M : List β} (h : EOwn E w B A c L) (k : EOwn F w B' A' c' M) (hT : E.e ≠ F.e) (hg : w.grownBy w' (A'.map (·.block))) : EOwn E w' B A c L := by
  refine h.kept hg ?_
  cases hA : A with
  | none => exact .inl rfl
  | some a =>
    refine .inr fun e => ?_
    cases hA' : A' with
    | none => rw [hA'] at e; simp at e
    | some b =>
      rw [hA'] at e
      simp at e
      exact EOwn.ne_own h k hT a hA b hA' e
theorem Blk.keptO {β : Type} {F : Elem β} {w w' : World} {g : Nat} {T : TypeId} {cs : List Value} {B' c' : Nat} {A' : Option Addr} {M : List β} (h : Blk w g T cs) (k : EOwn F w B' A' c' M) (hT : T ≠ F.e) (hg : w.grownBy w' (A'.map (·.block))) : Blk w' g T cs :=
  h.grown hg (map_block_ne (k.ne_blk h hT))
/-- A planner's world while it is filled: the query at g3, the answer's cell at g6, the world at g8. -/
structure ChSt (w wr : World) (p : Qp) (da : Option Addr) (dn dc g3 g6 g8 : Nat) (na : Option Addr) (need : List Nat) (nc : Nat) (ra : Option Addr) (rows : List Int) (rc : Nat) (ca : Option Addr) (cols : List Cs) (cc : Nat) : Prop where
  q : Blk wr g3 36 p.cells
  o : Blk wr g6 44 Pm.nil.cells
  x : Blk wr g8 61 (p.cells ++ (.slice da dn dc :: [.slice na need.length nc, .slice ra rows.length rc, .slice ca cols.length cc]))
  n : EOwn eMk wr w.heap.size na nc need
  r : EOwn eI64 wr w.heap.size ra rc rows
  c : EOwn eCs wr w.heap.size ca cc cols
  b : Below w.heap.size w wr
  l3 : w.heap.size ≤ g3
  l6 : w.heap.size ≤ g6
  l8 : w.heap.size ≤ g8
  n3 : g3 ≠ g8
  n6 : g6 ≠ g8
section
variable {w wr W : World} {p : Qp} {da : Option Addr} {dn dc g3 g6 g8 : Nat} {na : Option Addr} {need : List Nat} {nc : Nat} {ra : Option Addr} {rows : List Int} {rc : Nat} {ca : Option Addr} {cols : List Cs} {cc : Nat}
theorem ChSt.below (h : ChSt w wr p da dn dc g3 g6 g8 na need nc ra rows rc ca cols cc) (hB : Below wr.heap.size wr W) : ChSt w W p da dn dc g3 g6 g8 na need nc ra rows rc ca cols cc :=
  ⟨h.q.below hB, h.o.below hB, h.x.below hB, h.n.below hB, h.r.below hB, h.c.below hB, h.b.then hB, h.l3, h.l6, h.l8, h.n3, h.n6⟩
theorem ChSt.addRow (h : ChSt w wr p da dn dc g3 g6 g8 na need nc ra rows rc ca cols cc) {A : Option Addr} {c : Nat} {n : Int} (ho : EOwn eI64 W w.heap.size A c (rows ++ [n])) (hg : wr.grownBy W (ra.map (·.block))) :
    ChSt w (W.setCell ⟨g8, 11, none⟩ (.slice A (rows.length + 1) c)) p da dn dc g3 g6 g8 na need nc A (rows ++ [n]) c ca cols cc := by
  have x2 := h.x.keptO h.r (by decide) hg
  have g2 : W.grownBy (W.setCell ⟨g8, 11, none⟩ (.slice A (rows.length + 1) c)) (some g8) := grown_store W g8 11 _
  have b2 : Below w.heap.size w W := h.b.trans (h.r.below_grown hg h.b.size)
  refine ⟨(h.q.keptO h.r (by decide) hg).grown g2 (by simp only [ne_eq, Option.some.injEq]; exact h.n3), (h.o.keptO h.r (by decide) hg).grown g2 (by simp only [ne_eq, Option.some.injEq]; exact h.n6), ?_, (h.n.keptO h.r (by decide) hg).keptG x2 (by decide) g2, ho.keptG x2 (by decide) g2, (h.c.keptO h.r (by decide) hg).keptG x2 (by decide) g2, below_of_grown b2 g2 h.l8 b2.size, h.l3, h.l6, h.l8, h.n3, h.n6⟩
  have := x2.set 11 (.slice A (rows.length + 1) c)
  rw [List.length_append]
  exact this
theorem ChSt.addCol (h : ChSt w wr p da dn dc g3 g6 g8 na need nc ra rows rc ca cols cc) {A : Option Addr} {c : Nat} {n : Cs} (ho : EOwn eCs W w.heap.size A c (cols ++ [n])) (hg : wr.grownBy W (ca.map (·.block))) :
    ChSt w (W.setCell ⟨g8, 12, none⟩ (.slice A (cols.length + 1) c)) p da dn dc g3 g6 g8 na need nc ra rows rc A (cols ++ [n]) c := by
  have x2 := h.x.keptO h.c (by decide) hg
  have g2 : W.grownBy (W.setCell ⟨g8, 12, none⟩ (.slice A (cols.length + 1) c)) (some g8) := grown_store W g8 12 _
  have b2 : Below w.heap.size w W := h.b.trans (h.c.below_grown hg h.b.size)
  refine ⟨(h.q.keptO h.c (by decide) hg).grown g2 (by simp only [ne_eq, Option.some.injEq]; exact h.n3), (h.o.keptO h.c (by decide) hg).grown g2 (by simp only [ne_eq, Option.some.injEq]; exact h.n6), ?_, (h.n.keptO h.c (by decide) hg).keptG x2 (by decide) g2, (h.r.keptO h.c (by decide) hg).keptG x2 (by decide) g2, ho.keptG x2 (by decide) g2, below_of_grown b2 g2 h.l8 b2.size, h.l3, h.l6, h.l8, h.n3, h.n6⟩
  have := x2.set 12 (.slice A (cols.length + 1) c)
  rw [List.length_append]
  exact this
theorem ChSt.addNeed (h : ChSt w wr p da dn dc g3 g6 g8 na need nc ra rows rc ca cols cc) {A : Option Addr} {c : Nat} {n : Nat} (ho : EOwn eMk W w.heap.size A c (need ++ [n])) (hg : wr.grownBy W (na.map (·.block))) :
    ChSt w (W.setCell ⟨g8, 10, none⟩ (.slice A (need.length + 1) c)) p da dn dc g3 g6 g8 A (need ++ [n]) c ra rows rc ca cols cc := by
  have x2 := h.x.keptO h.n (by decide) hg
  have g2 : W.grownBy (W.setCell ⟨g8, 10, none⟩ (.slice A (need.length + 1) c)) (some g8) := grown_store W g8 10 _
  have b2 : Below w.heap.size w W := h.b.trans (h.n.below_grown hg h.b.size)
  refine ⟨(h.q.keptO h.n (by decide) hg).grown g2 (by simp only [ne_eq, Option.some.injEq]; exact h.n3), (h.o.keptO h.n (by decide) hg).grown g2 (by simp only [ne_eq, Option.some.injEq]; exact h.n6), ?_, ho.keptG x2 (by decide) g2, (h.r.keptO h.n (by decide) hg).keptG x2 (by decide) g2, (h.c.keptO h.n (by decide) hg).keptG x2 (by decide) g2, below_of_grown b2 g2 h.l8 b2.size, h.l3, h.l6, h.l8, h.n3, h.n6⟩
  have := x2.set 10 (.slice A (need.length + 1) c)
  rw [List.length_append]
  exact this
end
end Go.Proofs.YtjdffhonljhpcaaGreat
end

section
/-
  The least number of which something holds: for loops whose end no slot tells.
-/
namespace Go.Proofs.YtjdffhonljhpcaaGreat
set_option linter.unusedSimpArgs false
set_option linter.unusedVariables false
theorem least_ex {P : Nat → Prop} (h : ∃ k, P k) : ∃ k, P k ∧ ∀ j, P j → k ≤ j := by
  obtain ⟨k, hk⟩ := h
  induction k using Nat.strongRecOn with
  | ind k ih =>
    by_cases hj : ∃ j, j < k ∧ P j
    · obtain ⟨j, h1, h2⟩ := hj
      exact ih j h1 h2
    · refine ⟨k, hk, fun j h => ?_⟩
      by_cases hlt : j < k
      · exact absurd ⟨j, hlt, h⟩ hj
      · omega
theorem least_or (P : Nat → Prop) : ∃ k, (∃ j, P j) → P k ∧ ∀ j, P j → k ≤ j := by
  by_cases h : ∃ j, P j
  · obtain ⟨k, hk⟩ := least_ex h
    exact ⟨k, fun _ => hk⟩
  · exact ⟨0, fun h' => absurd h' h⟩
noncomputable def leastOf (P : Nat → Prop) : Nat := Classical.choose (least_or P)
theorem leastOf_spec {P : Nat → Prop} (h : ∃ k, P k) : P (leastOf P) ∧ ∀ j, P j → leastOf P ≤ j := Classical.choose_spec (least_or P) h
namespace Pn
theorem massF_some (b : Nat) : ∀ (l : List (Nat × Nat)) (r : Mm × Bool), MOk r.1 → (∀ k ∈ l, (mget r.1 k.1).isSome ∧ (mget r.1 k.2).isSome) → (mget r.1 b).isSome →
    MOk (massF b l r).1 ∧ ∀ i, (mget r.1 i).isSome → (mget (massF b l r).1 i).isSome
  | [], r, h, _, _ => ⟨h, fun _ h => h⟩
  | k :: l, r, h, hl, hb => by
    obtain ⟨h1, h2⟩ := hl k List.mem_cons_self
    have lt : ∀ i, (mget r.1 i).isSome → i < 16 := fun i hi => by have := mget_lt hi; rw [h.len] at this; exact this
    have ok1 := h.add h2 hb
    have or1 := or16 k.2 (lt _ h2) b (lt _ hb)
    have s1 : ∀ i, (mget r.1 i).isSome → (mget (madd r.1 k.2 b).1 i).isSome := fun i hi => madd_some h.len or1 hi
    have hs : (mget (madd r.1 k.2 b).1 (k.2 ||| b)).isSome := madd_self h.len or1
    have ok2 := ok1.add (s1 _ h1) hs
    have s2 : ∀ i, (mget (madd r.1 k.2 b).1 i).isSome → (mget (madd (madd r.1 k.2 b).1 k.1 (k.2 ||| b)).1 i).isSome := fun i hi => madd_some ok1.len (or16 _ (lt _ h1) _ or1) hi
    have ih := massF_some b l ((madd (madd r.1 k.2 b).1 k.1 (k.2 ||| b)).1, (madd (madd r.1 k.2 b).1 k.1 (k.2 ||| b)).2 || ((madd r.1 k.2 b).2 || r.2)) ok2 (fun k' hk' => ⟨s2 _ (s1 _ (hl k' (List.mem_cons_of_mem _ hk')).1), s2 _ (s1 _ (hl k' (List.mem_cons_of_mem _ hk')).2)⟩) (s2 _ (s1 _ hb))
    exact ⟨ih.1, fun i hi => ih.2 i (s2 i (s1 i hi))⟩
theorem mass_some {m : Mm} (h : MOk m) {j : Nat × Nat} (hb : (mget m j.2).isSome) : ∀ i, (mget m i).isSome → (mget (mass m j).1 i).isSome :=
  (massF_some j.2 (mjs m j.1) (m, false) h (fun k hk => ⟨(h.js _ k hk).2.2.1, (h.js _ k hk).2.2.2⟩) hb).2
theorem msF_succ (s k : Nat) (r : Mm × Bool) : msF s (k + 1) r = msF (s + 1) k (match mget r.1 s with
    | some l => mjF l r
    | none => r) := rfl
theorem msF_some {s k : Nat} {r : Mm × Bool} {l : List (Nat × Nat)} (h : mget r.1 s = some l) : msF s (k + 1) r = msF (s + 1) k (mjF l r) := by rw [msF_succ, h]
theorem msF_none {s k : Nat} {r : Mm × Bool} (h : mget r.1 s = none) : msF s (k + 1) r = msF (s + 1) k r := by rw [msF_succ, h]
theorem mAll_true {all n : Nat} {m : Mm} (h : (msF 1 all (m, false)).2 = true) : mAll all (n + 1) m = mAll all n (msF 1 all (m, false)).1 := by
  show (if (msF 1 all (m, false)).2 then _ else _) = _
  rw [if_pos h]
theorem mAll_false {all n : Nat} {m : Mm} (h : (msF 1 all (m, false)).2 = false) : mAll all (n + 1) m = ((msF 1 all (m, false)).1, true) := by
  show (if (msF 1 all (m, false)).2 then _ else _) = _
  rw [if_neg (by rw [h]; simp)]
end Pn
end Go.Proofs.YtjdffhonljhpcaaGreat
end

section
/-
  The contract of explore.
-/
namespace Go.Proofs.YtjdffhonljhpcaaGreat
set_option linter.unusedSimpArgs false
set_option linter.unusedVariables false
open Go.RowKit Go.Maps

namespace Pn
def mnil : Mm := List.replicate 16 none
theorem mnil_get (k : Nat) : mget mnil k = none := by
  unfold mget mnil
  rw [List.getD_eq_getElem?_getD, List.getElem?_replicate]
  split <;> rfl
theorem mnil_ok : MOk mnil := ⟨rfl, (by intro k l h; rw [mnil_get] at h; cases h), (by intro k l h; rw [mnil_get] at h; cases h)⟩
theorem mBegin_succ (n f k : Nat) (r : Mm × Nat) : mBegin n f (k + 1) r = mBegin n (f + 1) k ((madd (mset r.1 (2 ^ f) []) r.2 (2 ^ f)).1, r.2 ||| 2 ^ f) := rfl
theorem m0_nil : m0 = mset mnil 1 [] := rfl
end Pn
theorem MemoIs.made (w : World) : MemoIs (w.alloc (.map #[] 0)) w.heap.size w.heap.size (fun _ => none) Pn.mnil :=
  ⟨⟨GMap.made w, Nat.le_refl _, (by intro k x h; cases h), (by intro k x h; cases h), (by intro k x h; cases h), (by intro k k' x y h; cases h)⟩, Pn.mnil_ok, fun k => by rw [Pn.mnil_get]; rfl, (by intro k x h; cases h), by simp⟩
/-- A new group, without joins. -/
theorem MemoIs.new {w w1 w' : World} {B gm : Nat} {F : Nat → Option Gb} {m : Pn.Mm} (h : MemoIs w B gm F m) {k : Nat} (hk : k < 16) (hn : Pn.mget m k = none)
    (hb1 : Blk w1 w.heap.size 74 [.slice none 0 0, .pointer none, .pointer none]) (hB : Below w.heap.size w w1) (hz : w.heap.size + 1 ≤ w1.heap.size)
    (hg : w1.grownBy w' (some gm)) (hm : GMap w' gm (Pn.mcnt m + 1) (fun j => if j = k then some w.heap.size else (F j).map Gb.g)) :
    (∃ F', MemoIs w' B gm F' (Pn.mset m k [])) ∧ Below B w w' ∧ KeepG w w' := by
  have hk' : k < m.length := by rw [h.ok.len]; exact hk
  have hF : F k = none := by
    have := h.js k
    rw [hn] at this
    cases hF : F k with
    | none => rfl
    | some x => rw [hF] at this; cases this
  have hmore := h.at_.more h.size hF hb1 hB hz hg hm
  rw [← Pn.mcnt_new hk' hn []] at hmore
  refine ⟨⟨_, hmore, h.ok.set hk (by intro j hj; cases hj) List.nodup_nil, fun i => ?_, fun i x hx => ?_, ?_⟩, ?_, ?_⟩
  · rw [Pn.mget_set hk']
    by_cases hi : i = k
    · rw [if_pos hi, if_pos hi]; rfl
    · rw [if_neg hi, if_neg hi]; exact h.js i
  · split at hx
    · cases hx; exact ⟨rfl, rfl⟩
    · exact h.nil i x hx
  · have := h.size; have := hB.size; have := hg.size; omega
  · exact below_of_grown (hB.mono h.size) hg h.at_.mlo (Nat.le_trans h.size hB.size)
  · exact (KeepG.of_below hB).trans (KeepG.map (h.at_.map.below hB).mp hg hm.mp)
/-- Ahead of a sweep, k of which are left at most. -/
def SweepRel (w : World) (gm a : Nat) (R : Pn.Mm × Bool) (v : Value) (wr : World) (k : Nat) : Prop := ∃ b : Bool, v = .bool b ∧ ∃ m F, MemoIs wr gm gm F m ∧ Below w.heap.size w wr ∧ (b = true → Pn.mAll a k m = R) ∧ (b = false → R = (m, true))
set_option maxRecDepth 20000 in
set_option maxHeartbeats 8000000 in
theorem explore_any (w : World) (n : Nat) (h1 : 1 ≤ n) (h4 : n ≤ 4) :
    Calls Tryz.prog 21 #[.int .i64 n] w fun e w' => e = .returned (.map (some w.heap.size)) ∧ (∃ F, MemoIs w' w.heap.size w.heap.size F (Pn.mEnd n).1) ∧ Below w.heap.size w w' := by
  have hmm := @run_makeMap Tryz.prog
  have HZ := Lib.hid ptrG_zero
  go_enter Tryz.func21, Tryz.ntmps21
  go_upto_region 3 with fail
  have HM0 := Lib.hid (MemoIs.made w)
  have HB0 : Hid (Below w.heap.size w (w.alloc (.map #[] 0))) := Below.alloc1 _ _
  generalize w.alloc (.map #[] 0) = W0 at HM0 HB0 ⊢
  obtain ⟨gm, hgm⟩ : ∃ g, w.heap.size = g := ⟨_, rfl⟩
  rw [hgm] at HM0
  rw [hgm]
  have HGM := Lib.hid hgm
  clear hgm hmm
  have HMP := Lib.hid HM0.out.at_.map
  have hB1 : Below W0.heap.size W0 (W0.alloc (.cells #[.slice none 0 0, .pointer none, .pointer none] 74)) := Below.alloc1 _ _
  have HB1 := Lib.hid hB1
  have HMP1 := Lib.hid (HMP.out.below hB1)
  clear hB1 HMP
  go_upto_region 4 with (at_mapUpdate; refine wpList_memo_update rfl rfl (.tmp 13) (.const (.int .u8 1)) (.tmp 15) rfl rfl HMP1.out (by decide) 1 rfl (by omega) W0.heap.size rfl ?_; intro W2 hm2 hg2)
  have HN := Lib.hid (HM0.out.new (k := 1) (by omega) (Pn.mnil_get 1) (Blk.new _ _ _) HB1.out (by simp) hg2 hm2)
  obtain ⟨⟨F2, hM2⟩, hB2, hK2⟩ := HN.out
  have HM2 := Lib.hid hM2
  have HB2 : Hid (Below w.heap.size w W2) := HB0.out.trans (by rw [HGM.out]; exact hB2)
  clear hm2 hg2 HMP1 HN hM2 hB2 hK2 HM0 HB0 HB1
  go_upto_region 5 with fail
  obtain ⟨E, hE⟩ : ∃ E, Pn.mBegin n 1 (n - 1) (Pn.m0, 1) = E := ⟨_, rfl⟩
  have HE : Hid (∃ F, Pn.mBegin n 1 (n - 1) (Pn.m0, 1) = E ∧ MemoIs W2 gm gm F Pn.m0 ∧ Below w.heap.size w W2 ∧ (1 : Nat) = 2 ^ 1 - 1 ∧ (Pn.mget Pn.m0 1).isSome ∧ ∀ i, 2 ^ 1 ≤ i → Pn.mget Pn.m0 i = none) := by
    refine ⟨F2, hE, HM2.out, HB2.out, rfl, rfl, fun i hi => ?_⟩
    rw [Pn.m0_nil, Pn.mget_set (by decide), if_neg (by omega), Pn.mnil_get]
  go_loopw [4, 5] (fun av fv wr => ∃ (f a : Nat), 1 ≤ f ∧ f ≤ n ∧ av = .int .u8 (a : Nat) ∧ fv = .int .i64 (f : Nat) ∧ Hid (∃ m F, Pn.mBegin n f (n - f) (m, a) = E ∧ MemoIs wr gm gm F m ∧ Below w.heap.size w wr ∧ a = 2 ^ f - 1 ∧ (Pn.mget m a).isSome ∧ ∀ i, 2 ^ f ≤ i → Pn.mget m i = none)) (fun _ fv _ => n - (intOf fv).toNat)
  case atStart => exact ⟨1, 1, by omega, h1, rfl, rfl, Pn.m0, HE.out⟩
  case round =>
    obtain ⟨f, a, hf1, hfn, rfl, rfl, HJ⟩ := hrel
    obtain ⟨m, F, hd, hM, hB, ha, hsome, hnone⟩ := HJ.out
    have HD := Lib.hid hd
    have HM := Lib.hid hM
    have HB := Lib.hid hB
    have HA := Lib.hid ha
    have HS := Lib.hid hsome
    have HN := Lib.hid hnone
    clear HJ hd hM hB ha hsome hnone
    by_cases hlt : f < n
    · have hii : (f : Int) < (n : Int) := by omega
      have hB1 : Below wr.heap.size wr (wr.alloc (.cells #[.slice none 0 0, .pointer none, .pointer none] 74)) := Below.alloc1 _ _
      have HB1 := Lib.hid hB1
      have HMP1 := Lib.hid (HM.out.at_.map.below hB1)
      have hcnt : Pn.mcnt m < 1000000 := by have := Pn.mcnt_le m; have := HM.out.ok.len; omega
      clear hB1
      have h3 : f = 1 ∨ f = 2 ∨ f = 3 := by omega
      rcases h3 with rfl | rfl | rfl
      · have ha : a = 1 := HA.out
        subst ha
        have ho : bits BinOp.or IntKind.u8 1 2 = 3 := or8 1 (by omega) 2 (by omega)
        go_upto_region 8 with (at_mapUpdate; refine wpList_memo_update rfl rfl (.tmp 21) (.tmp 23) (.tmp 25) rfl rfl HMP1.out hcnt 2 rfl (by omega) wr.heap.size rfl ?_; intro W4 hm4 hg4)
        have HNW := Lib.hid (HM.out.new (k := 2) (by omega) (HN.out 2 (by omega)) (Blk.new _ _ _) HB1.out (by simp) hg4 hm4)
        clear hm4 hg4 HMP1
        obtain ⟨⟨F4, hM4⟩, hB4, hK4⟩ := HNW.out
        have HM4 := Lib.hid hM4
        have HB4 : Hid (Below w.heap.size w W4) := HB.out.trans (by rw [HGM.out]; exact hB4)
        clear hM4 hB4 hK4 HNW
        have hlen : List.length m = 16 := HM.out.ok.len
        have HSA : Hid ((Pn.mget (Pn.mset m 2 []) 1).isSome) := Pn.some_set (by omega) _ HS.out
        have HSB : Hid ((Pn.mget (Pn.mset m 2 []) 2).isSome) := by show (Pn.mget _ _).isSome; rw [Pn.mget_set (by omega), if_pos rfl]; rfl
        go_wp2_with fail
        refine (madd_any W4 gm gm F4 (Pn.mset m 2 []) HM4.out 1 2 HSA.out HSB.out).mono ?_
        rintro e W5 ⟨rfl, ⟨F5, hF5⟩, hB5, hK5⟩
        have HF5 := Lib.hid hF5
        have HB5 : Hid (Below w.heap.size w W5) := HB4.out.trans (by rw [HGM.out]; exact hB5)
        have HD5 : Hid (Pn.mBegin n (1 + 1) (n - (1 + 1)) ((Pn.madd (Pn.mset m 2 []) 1 2).1, 3) = E) := by
          show _ = _
          rw [← HD.out, show n - 1 = (n - (1 + 1)) + 1 by omega, Pn.mBegin_succ]
          dsimp only
          rw [show (2 : Nat) ^ 1 = 2 by decide, show (1 : Nat) ||| 2 = 3 by decide]
        have HS5 : Hid ((Pn.mget (Pn.madd (Pn.mset m 2 []) 1 2).1 3).isSome) := Pn.madd_self (a := 1) (b := 2) (by rw [Pn.mset_len]; exact hlen) (by decide)
        have HN5 : Hid (∀ i, 2 ^ (1 + 1) ≤ i → Pn.mget (Pn.madd (Pn.mset m 2 []) 1 2).1 i = none) := by
          intro i hi
          have h1 : Pn.mget (Pn.mset m 2 []) i = none := by rw [Pn.mget_set (by omega), if_neg (by omega)]; exact HN.out i (by omega)
          unfold Pn.madd
          split
          · exact h1
          · rw [Pn.mget_set (by rw [Pn.mset_len, hlen]; decide), if_neg (show ¬ i = 1 ||| 2 by show ¬ i = 3; omega)]; exact h1
        clear hF5 hB5 hK5 hlen
        generalize (Pn.madd (Pn.mset m 2 []) 1 2).2 = bb
        go_wp2_with fail
        go_roundw
        case rel => exact ⟨1 + 1, 3, by omega, by omega, by go_num, by go_num, _, F5, HD5.out, HF5.out, HB5.out, rfl, HS5.out, HN5.out⟩
        case measure => simp [intOf]; omega
      · have ha : a = 3 := HA.out
        subst ha
        have ho : bits BinOp.or IntKind.u8 3 4 = 7 := or8 3 (by omega) 4 (by omega)
        go_upto_region 8 with (at_mapUpdate; refine wpList_memo_update rfl rfl (.tmp 21) (.tmp 23) (.tmp 25) rfl rfl HMP1.out hcnt 4 rfl (by omega) wr.heap.size rfl ?_; intro W4 hm4 hg4)
        have HNW := Lib.hid (HM.out.new (k := 4) (by omega) (HN.out 4 (by omega)) (Blk.new _ _ _) HB1.out (by simp) hg4 hm4)
        clear hm4 hg4 HMP1
        obtain ⟨⟨F4, hM4⟩, hB4, hK4⟩ := HNW.out
        have HM4 := Lib.hid hM4
        have HB4 : Hid (Below w.heap.size w W4) := HB.out.trans (by rw [HGM.out]; exact hB4)
        clear hM4 hB4 hK4 HNW
        have hlen : List.length m = 16 := HM.out.ok.len
        have HSA : Hid ((Pn.mget (Pn.mset m 4 []) 3).isSome) := Pn.some_set (by omega) _ HS.out
        have HSB : Hid ((Pn.mget (Pn.mset m 4 []) 4).isSome) := by show (Pn.mget _ _).isSome; rw [Pn.mget_set (by omega), if_pos rfl]; rfl
        go_wp2_with fail
        refine (madd_any W4 gm gm F4 (Pn.mset m 4 []) HM4.out 3 4 HSA.out HSB.out).mono ?_
        rintro e W5 ⟨rfl, ⟨F5, hF5⟩, hB5, hK5⟩
        have HF5 := Lib.hid hF5
        have HB5 : Hid (Below w.heap.size w W5) := HB4.out.trans (by rw [HGM.out]; exact hB5)
        have HD5 : Hid (Pn.mBegin n (2 + 1) (n - (2 + 1)) ((Pn.madd (Pn.mset m 4 []) 3 4).1, 7) = E) := by
          show _ = _
          rw [← HD.out, show n - 2 = (n - (2 + 1)) + 1 by omega, Pn.mBegin_succ]
          dsimp only
          rw [show (2 : Nat) ^ 2 = 4 by decide, show (3 : Nat) ||| 4 = 7 by decide]
        have HS5 : Hid ((Pn.mget (Pn.madd (Pn.mset m 4 []) 3 4).1 7).isSome) := Pn.madd_self (a := 3) (b := 4) (by rw [Pn.mset_len]; exact hlen) (by decide)
        have HN5 : Hid (∀ i, 2 ^ (2 + 1) ≤ i → Pn.mget (Pn.madd (Pn.mset m 4 []) 3 4).1 i = none) := by
          intro i hi
          have h1 : Pn.mget (Pn.mset m 4 []) i = none := by rw [Pn.mget_set (by omega), if_neg (by omega)]; exact HN.out i (by omega)
          unfold Pn.madd
          split
          · exact h1
          · rw [Pn.mget_set (by rw [Pn.mset_len, hlen]; decide), if_neg (show ¬ i = 3 ||| 4 by show ¬ i = 7; omega)]; exact h1
        clear hF5 hB5 hK5 hlen
        generalize (Pn.madd (Pn.mset m 4 []) 3 4).2 = bb
        go_wp2_with fail
        go_roundw
        case rel => exact ⟨2 + 1, 7, by omega, by omega, by go_num, by go_num, _, F5, HD5.out, HF5.out, HB5.out, rfl, HS5.out, HN5.out⟩
        case measure => simp [intOf]; omega
      · have ha : a = 7 := HA.out
        subst ha
        have ho : bits BinOp.or IntKind.u8 7 8 = 15 := or8 7 (by omega) 8 (by omega)
        go_upto_region 8 with (at_mapUpdate; refine wpList_memo_update rfl rfl (.tmp 21) (.tmp 23) (.tmp 25) rfl rfl HMP1.out hcnt 8 rfl (by omega) wr.heap.size rfl ?_; intro W4 hm4 hg4)
        have HNW := Lib.hid (HM.out.new (k := 8) (by omega) (HN.out 8 (by omega)) (Blk.new _ _ _) HB1.out (by simp) hg4 hm4)
        clear hm4 hg4 HMP1
        obtain ⟨⟨F4, hM4⟩, hB4, hK4⟩ := HNW.out
        have HM4 := Lib.hid hM4
        have HB4 : Hid (Below w.heap.size w W4) := HB.out.trans (by rw [HGM.out]; exact hB4)
        clear hM4 hB4 hK4 HNW
        have hlen : List.length m = 16 := HM.out.ok.len
        have HSA : Hid ((Pn.mget (Pn.mset m 8 []) 7).isSome) := Pn.some_set (by omega) _ HS.out
        have HSB : Hid ((Pn.mget (Pn.mset m 8 []) 8).isSome) := by show (Pn.mget _ _).isSome; rw [Pn.mget_set (by omega), if_pos rfl]; rfl
        go_wp2_with fail
        refine (madd_any W4 gm gm F4 (Pn.mset m 8 []) HM4.out 7 8 HSA.out HSB.out).mono ?_
        rintro e W5 ⟨rfl, ⟨F5, hF5⟩, hB5, hK5⟩
        have HF5 := Lib.hid hF5
        have HB5 : Hid (Below w.heap.size w W5) := HB4.out.trans (by rw [HGM.out]; exact hB5)
        have HD5 : Hid (Pn.mBegin n (3 + 1) (n - (3 + 1)) ((Pn.madd (Pn.mset m 8 []) 7 8).1, 15) = E) := by
          show _ = _
          rw [← HD.out, show n - 3 = (n - (3 + 1)) + 1 by omega, Pn.mBegin_succ]
          dsimp only
          rw [show (2 : Nat) ^ 3 = 8 by decide, show (7 : Nat) ||| 8 = 15 by decide]
        have HS5 : Hid ((Pn.mget (Pn.madd (Pn.mset m 8 []) 7 8).1 15).isSome) := Pn.madd_self (a := 7) (b := 8) (by rw [Pn.mset_len]; exact hlen) (by decide)
        have HN5 : Hid (∀ i, 2 ^ (3 + 1) ≤ i → Pn.mget (Pn.madd (Pn.mset m 8 []) 7 8).1 i = none) := by
          intro i hi
          have h1 : Pn.mget (Pn.mset m 8 []) i = none := by rw [Pn.mget_set (by omega), if_neg (by omega)]; exact HN.out i (by omega)
          unfold Pn.madd
          split
          · exact h1
          · rw [Pn.mget_set (by rw [Pn.mset_len, hlen]; decide), if_neg (show ¬ i = 7 ||| 8 by show ¬ i = 15; omega)]; exact h1
        clear hF5 hB5 hK5 hlen
        generalize (Pn.madd (Pn.mset m 8 []) 7 8).2 = bb
        go_wp2_with fail
        go_roundw
        case rel => exact ⟨3 + 1, 15, by omega, by omega, by go_num, by go_num, _, F5, HD5.out, HF5.out, HB5.out, rfl, HS5.out, HN5.out⟩
        case measure => simp [intOf]; omega
    · have hii : ¬ (f : Int) < (n : Int) := by omega
      have he : f = n := by omega
      subst he
      have HE2 : Hid (E = (m, a)) := by show _ = _; rw [← HD.out, Nat.sub_self]; rfl
      have ha : a ≤ 15 := by
        rw [HA.out]
        have h3 : f = 1 ∨ f = 2 ∨ f = 3 ∨ f = 4 := by omega
        rcases h3 with rfl | rfl | rfl | rfl <;> decide
      have HEND : Hid (Pn.mAll a 9 m = Pn.mEnd f) := by
        show _ = _
        unfold Pn.mEnd
        rw [hE, HE2.out, HA.out]
      have HOKE : Hid ((Pn.mEnd f).2 = true) := Pn.mEnd_ok f (by omega) h1
      have HLEN : Hid (f + 0 = f) := rfl
      clear hii hlt hE HE HD HE2 HA HN hf1 hfn
      obtain ⟨R, hR⟩ : ∃ R, Pn.mEnd f = R := ⟨_, rfl⟩
      rw [hR] at HEND HOKE
      have HRR := Lib.hid hR
      clear hR HS
      go_upto_region 11 with fail
      clear HLEN
      go_loopw [6] (fun v wr => Hid (∃ k, SweepRel w gm a R v wr k)) (fun v wr => leastOf (SweepRel w gm a R v wr))
      case atStart => exact ⟨9, true, rfl, m, F, HM.out, HB.out, fun _ => HEND.out, fun h => by cases h⟩
      case round =>
        have hk0 := leastOf_spec hrel.out
        obtain ⟨k0, hk0d⟩ : ∃ k0, leastOf (SweepRel w gm a R u6 wr) = k0 := ⟨_, rfl⟩
        rw [hk0d] at hk0
        obtain ⟨⟨b, hu6, m, F, hM, hB, ht, hf⟩, -⟩ := hk0
        have HK0 := Lib.hid hk0d
        subst hu6
        have HM := Lib.hid hM
        have HB := Lib.hid hB
        clear hk0d hM hB hrel
        cases b with
        | false =>
          have HR := Lib.hid (hf rfl)
          have HMR : Hid (∃ F, MemoIs wr w.heap.size w.heap.size F (Pn.mEnd f).1) := by
            refine ⟨F, ?_⟩
            rw [HRR.out, HR.out, HGM.out]
            exact HM.out
          clear hf ht
          go_wp2_with fail
          go_ret
          exact ⟨by rw [HGM.out]; rfl, HMR.out, HB.out⟩
        | true =>
          have HT := Lib.hid (ht rfl)
          clear ht hf
          obtain ⟨k1, rfl⟩ : ∃ k1, k0 = k1 + 1 := by
            cases k0 with
            | zero =>
              have h1 := HT.out
              have h2 := HOKE.out
              rw [← h1] at h2
              cases h2
            | succ k => exact ⟨k, rfl⟩
          obtain ⟨r, hr⟩ : ∃ r, Pn.msF 1 a (m, false) = r := ⟨_, rfl⟩
          have HRS := Lib.hid hr
          clear hr
          go_upto_region 14 with fail
          go_loopw [6, 7] (fun bv sv ws => ∃ (b : Bool) (s : Nat), 1 ≤ s ∧ s ≤ a + 1 ∧ bv = .bool b ∧ sv = .int .u8 (s : Nat) ∧ Hid (∃ m1 F1, Pn.msF s (a + 1 - s) (m1, b) = r ∧ MemoIs ws gm gm F1 m1 ∧ Below w.heap.size w ws)) (fun _ sv _ => a + 1 - (intOf sv).toNat)
          case atStart => exact ⟨false, 1, by omega, by omega, rfl, rfl, m, F, HRS.out, HM.out, HB.out⟩
          case round =>
            obtain ⟨b, s, hs1, hsa, rfl, rfl, HJ⟩ := hrel
            obtain ⟨m, F, hd, hM, hB⟩ := HJ.out
            have HD := Lib.hid hd
            have HM := Lib.hid hM
            have HB := Lib.hid hB
            clear HJ hd hM hB
            by_cases hlt : s ≤ a
            · have hii : (s : Int) ≤ (a : Int) := by omega
              have hmp := HM.out.at_.map
              have hjk := HM.out.js s
              cases hF : F s with
              | none =>
                have hgk : Pn.mget m s = none := by rw [← hjk, hF]; rfl
                have HD2 : Hid (Pn.msF (s + 1) (a + 1 - (s + 1)) (m, b) = r) := by
                  show _ = _
                  rw [← HD.out, show a + 1 - s = a + 1 - (s + 1) + 1 by omega]
                  exact (Pn.msF_none hgk).symm
                clear hjk hgk
                go_wp2_with (at_lookup; refine wpList_memo_lookup rfl (.tmp 42) (.tmp 43) rfl rfl hmp s rfl (by omega) (HZ.out _) ?_; simp only [hF, Option.map_none, ptrV, Option.isSome_none])
                go_roundw
                case rel => exact ⟨b, s + 1, by omega, by omega, rfl, by go_num, m, F, HD2.out, HM.out, HB.out⟩
                case measure => simp [intOf]; omega
              | some x =>
                have hgk : Pn.mget m s = some x.js := by rw [← hjk, hF]; rfl
                have HGK := Lib.hid hgk
                have HX := Lib.hid hF
                obtain ⟨rj, hrj⟩ : ∃ rj, Pn.mjF x.js (m, b) = rj := ⟨_, rfl⟩
                have HRJ := Lib.hid hrj
                have HD2 : Hid (Pn.msF (s + 1) (a + 1 - (s + 1)) rj = r) := by
                  show _ = _
                  rw [← HD.out, show a + 1 - s = a + 1 - (s + 1) + 1 by omega, ← hrj]
                  exact (Pn.msF_some hgk).symm
                have hfew : x.js.length ≤ 256 := by
                  have := HM.out.ok.few s
                  unfold Pn.mjs at this
                  rw [hgk] at this
                  exact this
                have HIN : Hid (∀ k ∈ x.js, k.1 < 16 ∧ k.2 < 16 ∧ (Pn.mget m k.1).isSome ∧ (Pn.mget m k.2).isSome) := HM.out.ok.lt s x.js hgk
                have HO : Hid (EOwn eJn wr gm x.ja x.jc x.js) := HM.out.at_.row s x hF
                obtain ⟨c0, -⟩ := Blk.c3 (HM.out.at_.blk s x hF)
                clear hjk hgk hrj
                go_upto_region 19 with (at_lookup; refine wpList_memo_lookup rfl (.tmp 42) (.tmp 43) rfl rfl hmp s rfl (by omega) (HZ.out _) ?_; simp only [hF, Option.map_some, ptrV, Option.isSome_some])
                clear hF hmp c0
                obtain ⟨W1, hW1⟩ : ∃ W1, W1 = wr := ⟨_, rfl⟩
                subst hW1
                go_loopw [6, 53] (fun bv iv ws => ∃ (i : Nat) (b : Bool), i ≤ x.js.length ∧ iv = .int .i64 (i : Int) ∧ bv = .bool b ∧ Hid (∃ m0 F0, Pn.mjF (x.js.drop i) (m0, b) = rj ∧ MemoIs ws gm gm F0 m0 ∧ (∀ i, (Pn.mget m i).isSome → (Pn.mget m0 i).isSome) ∧ Below w.heap.size w ws ∧ KeepG W1 ws)) (fun _ iv _ => x.js.length - (intOf iv).toNat)
                case atStart => exact ⟨0, b, Nat.zero_le _, by go_num, rfl, m, F, HRJ.out, HM.out, fun _ h => h, HB.out, KeepG.refl _⟩
                case round =>
                  obtain ⟨i, b, hi, rfl, rfl, HJ⟩ := hrel
                  obtain ⟨m0, F0, hdm, hm0, hsm, hbr, hkr⟩ := HJ.out
                  have HDM := Lib.hid hdm
                  have HM0 := Lib.hid hm0
                  have HSM := Lib.hid hsm
                  have HBR := Lib.hid hbr
                  have HKR := Lib.hid hkr
                  clear HJ hdm hm0 hsm hbr hkr
                  by_cases hlti : i < x.js.length
                  · have hiii : (i : Int) < (x.js.length : Int) := by omega
                    have HROW := Lib.hid ((HO.out.keepG (by decide) HKR.out).row)
                    obtain ⟨bb, oo, haa, -, -⟩ := HROW.out.at_ hlti
                    obtain ⟨j, hk⟩ : ∃ k, x.js[i] = k := ⟨_, rfl⟩
                    have HIW : Hid (ERow eJn wr (some ⟨bb, oo, none⟩) x.js) := by show ERow _ _ _ _; rw [← haa]; exact HROW.out
                    have HTK : Hid (x.js.drop i = j :: x.js.drop (i + 1)) := by show _ = _; rw [← hk]; exact List.drop_eq_getElem_cons hlti
                    have HKIN := Lib.hid (HIN.out j (by rw [← hk]; exact List.getElem_mem hlti))
                    have HKX := Lib.hid hk
                    rw [haa]
                    clear haa HROW hk
                    go_upto_region 21 with (first | (refine wpList_load_jn_at rfl (.tmp 55) rfl HIW.out hlti j HKX.out rfl ?_) | (refine wpList_alloc_jn rfl rfl ?_; intro W6 hb6 hz6 hB6) | (refine wpList_store_jn rfl rfl (.tmp 11) (.tmp 56) rfl _ rfl j rfl hb6 ?_; intro W7 hb7 hg7))
                    have hBn : Below wr.heap.size wr W7 := below_of_grown hB6 hg7 (Nat.le_refl _) hB6.size
                    have HM7 := Lib.hid (HM0.out.below hBn)
                    have HB7 : Hid (Below w.heap.size w W7) := HBR.out.trans (hBn.mono (by rw [HGM.out]; exact HM0.out.size))
                    have HK7 := Lib.hid (HKR.out.trans (KeepG.of_below hBn))
                    clear hb6 hz6 hB6 hg7 HIW hBn HKX
                    generalize wr.heap.size = g7 at hb7 ⊢
                    go_wp2_with (refine wpList_load_jn rfl (.tmp 11) rfl g7 rfl hb7 ?_)
                    refine (mcomm_any W7 gm gm F0 m0 HM7.out j (HSM.out _ HKIN.out.2.2.1) (HSM.out _ HKIN.out.2.2.2)).mono ?_
                    rintro e W8 ⟨rfl, ⟨F1, hF1⟩, hB8, hK8⟩
                    obtain ⟨r1, hr1⟩ : ∃ r, Pn.madd m0 j.2 j.1 = r := ⟨_, rfl⟩
                    rw [hr1] at hF1 ⊢
                    have HF1 := Lib.hid hF1
                    have HBX : Hid (Below w.heap.size w W8) := HB7.out.trans (by rw [HGM.out]; exact hB8)
                    have HKX : Hid (KeepG W1 W8) := HK7.out.trans hK8
                    have HLT : Hid ((j.2 ||| j.1) < 16) := or16 _ HKIN.out.2.1 _ HKIN.out.1
                    have HSX : Hid (∀ i, (Pn.mget m i).isSome → (Pn.mget r1.1 i).isSome) := fun i hi => by rw [← hr1]; exact Pn.madd_some HM7.out.ok.len HLT.out (HSM.out i hi)
                    have HS1 : Hid ((Pn.mget r1.1 j.1).isSome) := HSX.out _ HKIN.out.2.2.1
                    have HS2 : Hid ((Pn.mget r1.1 j.2).isSome) := HSX.out _ HKIN.out.2.2.2
                    have hb8 := hb7.keepG (by decide) hK8
                    have HDY : Hid (Pn.mjF (x.js.drop (i + 1)) ((Pn.mass r1.1 j).1, (Pn.mass r1.1 j).2 || (r1.2 || b)) = rj) := by
                      show _ = _
                      rw [← HDM.out, HTK.out, ← hr1]
                      rfl
                    clear hr1 hF1 hB8 hK8 hb7
                    cases hb1 : r1.2 with
                    | true =>
                      have HDX : Hid (Pn.mjF (x.js.drop (i + 1)) ((Pn.mass r1.1 j).1, (Pn.mass r1.1 j).2 || true) = rj) := by show _ = _; rw [← HDY.out, hb1]; rfl
                      clear hb1
                      go_wp2_with (refine wpList_load_jn rfl (.tmp 11) rfl g7 rfl hb8 ?_)
                      refine (mass_any W8 gm gm F1 r1.1 HF1.out j HS1.out HS2.out).mono ?_
                      rintro e W9 ⟨rfl, ⟨F9, hF9⟩, hB9, hK9⟩
                      obtain ⟨r2, hr2⟩ : ∃ r, Pn.mass r1.1 j = r := ⟨_, rfl⟩
                      rw [hr2] at hF9 ⊢
                      have HR2 := Lib.hid hr2
                      have HF9 := Lib.hid hF9
                      have HB9 : Hid (Below w.heap.size w W9) := HBX.out.trans (by rw [HGM.out]; exact hB9)
                      have HK9 : Hid (KeepG W1 W9) := HKX.out.trans hK9
                      have HS9 : Hid (∀ i, (Pn.mget m i).isSome → (Pn.mget r2.1 i).isSome) := fun i hi => by rw [← HR2.out]; exact Pn.mass_some HF1.out.ok HS2.out i (HSX.out i hi)
                      clear hr2 hF9 hB9 hK9
                      cases hb2 : r2.2 with
                      | true =>
                        have HD9 : Hid (Pn.mjF (x.js.drop (i + 1)) (r2.1, true) = rj) := by show _ = _; rw [← HDX.out]; rw [HR2.out, hb2]; rfl
                        clear hb2
                        go_wp2_with fail
                        go_roundw
                        case rel => exact ⟨i + 1, true, by omega, by go_num, rfl, r2.1, F9, HD9.out, HF9.out, HS9.out, HB9.out, HK9.out⟩
                        case measure => simp [intOf]; omega
                      | false =>
                        have HD9 : Hid (Pn.mjF (x.js.drop (i + 1)) (r2.1, true) = rj) := by show _ = _; rw [← HDX.out]; rw [HR2.out, hb2]; rfl
                        clear hb2
                        go_wp2_with fail
                        go_roundw
                        case rel => exact ⟨i + 1, true, by omega, by go_num, rfl, r2.1, F9, HD9.out, HF9.out, HS9.out, HB9.out, HK9.out⟩
                        case measure => simp [intOf]; omega
                    | false =>
                      have HDX : Hid (Pn.mjF (x.js.drop (i + 1)) ((Pn.mass r1.1 j).1, (Pn.mass r1.1 j).2 || b) = rj) := by show _ = _; rw [← HDY.out, hb1]; rfl
                      clear hb1
                      go_wp2_with (refine wpList_load_jn rfl (.tmp 11) rfl g7 rfl hb8 ?_)
                      refine (mass_any W8 gm gm F1 r1.1 HF1.out j HS1.out HS2.out).mono ?_
                      rintro e W9 ⟨rfl, ⟨F9, hF9⟩, hB9, hK9⟩
                      obtain ⟨r2, hr2⟩ : ∃ r, Pn.mass r1.1 j = r := ⟨_, rfl⟩
                      rw [hr2] at hF9 ⊢
                      have HR2 := Lib.hid hr2
                      have HF9 := Lib.hid hF9
                      have HB9 : Hid (Below w.heap.size w W9) := HBX.out.trans (by rw [HGM.out]; exact hB9)
                      have HK9 : Hid (KeepG W1 W9) := HKX.out.trans hK9
                      have HS9 : Hid (∀ i, (Pn.mget m i).isSome → (Pn.mget r2.1 i).isSome) := fun i hi => by rw [← HR2.out]; exact Pn.mass_some HF1.out.ok HS2.out i (HSX.out i hi)
                      clear hr2 hF9 hB9 hK9
                      cases hb2 : r2.2 with
                      | true =>
                        have HD9 : Hid (Pn.mjF (x.js.drop (i + 1)) (r2.1, true) = rj) := by show _ = _; rw [← HDX.out]; rw [HR2.out, hb2]; rfl
                        clear hb2
                        go_wp2_with fail
                        go_roundw
                        case rel => exact ⟨i + 1, true, by omega, by go_num, rfl, r2.1, F9, HD9.out, HF9.out, HS9.out, HB9.out, HK9.out⟩
                        case measure => simp [intOf]; omega
                      | false =>
                        have HD9 : Hid (Pn.mjF (x.js.drop (i + 1)) (r2.1, b) = rj) := by show _ = _; rw [← HDX.out]; rw [HR2.out, hb2]; rfl
                        clear hb2
                        go_wp2_with fail
                        go_roundw
                        case rel => exact ⟨i + 1, b, by omega, by go_num, rfl, r2.1, F9, HD9.out, HF9.out, HS9.out, HB9.out, HK9.out⟩
                        case measure => simp [intOf]; omega
                  · have hiii : ¬ (i : Int) < (x.js.length : Int) := by omega
                    have HRR2 : Hid (rj = (m0, b)) := by
                      show _ = _
                      rw [← HDM.out, List.drop_eq_nil_of_le (by omega)]
                      rfl
                    have HD3 : Hid (Pn.msF (s + 1) (a + 1 - (s + 1)) (m0, b) = r) := by show _ = _; rw [← HRR2.out]; exact HD2.out
                    go_wp2_with fail
                    go_roundw
                    case rel => exact ⟨b, s + 1, by omega, by omega, rfl, by go_num, m0, F0, HD3.out, HM0.out, HBR.out⟩
                    case measure => simp [intOf]; omega
            · have hii : ¬ (s : Int) ≤ (a : Int) := by omega
              have he : s = a + 1 := by omega
              have HR2 : Hid (r = (m, b)) := by show _ = _; rw [← HD.out, he, Nat.sub_self]; rfl
              clear he
              have HSW : Hid (SweepRel w gm a R (.bool b) wr k1) := by
                refine ⟨b, rfl, m, F, HM.out, HB.out, fun hb => ?_, fun hb => ?_⟩
                · rw [← HT.out, Pn.mAll_true (by rw [HRS.out, HR2.out]; exact hb), HRS.out, HR2.out]
                · rw [← HT.out, Pn.mAll_false (by rw [HRS.out, HR2.out]; exact hb), HRS.out, HR2.out]
              go_wp2_with fail
              go_roundw
              case rel => exact ⟨k1, HSW.out⟩
              case measure =>
                rw [HK0.out]
                have := (leastOf_spec ⟨k1, HSW.out⟩).2 k1 HSW.out
                omega
end Go.Proofs.YtjdffhonljhpcaaGreat
end

section
/-
  The ways to join a group of at most four tables.
-/
namespace Go.Proofs.YtjdffhonljhpcaaGreat.Pn
set_option linter.unusedSimpArgs false
set_option linter.unusedVariables false
theorem J_some : ∀ n < 5, 1 ≤ n → ∀ s < 2 ^ n, 1 ≤ s → (mget (mEnd n).1 s).isSome = true := by decide +kernel
theorem J_partsB : ∀ n < 5, 1 ≤ n → ∀ s < 2 ^ n, 1 ≤ s → ((J n s).all fun j => decide (1 ≤ j.1) && decide (1 ≤ j.2) && decide (j.1 < s) && decide (j.2 < s)) = true := by decide +kernel
theorem J_parts {n s : Nat} (h1 : n < 5) (h2 : 1 ≤ n) (h3 : s < 2 ^ n) (h4 : 1 ≤ s) : ∀ j ∈ J n s, 1 ≤ j.1 ∧ 1 ≤ j.2 ∧ j.1 < s ∧ j.2 < s := by
  intro j hj
  have h := List.all_eq_true.1 (J_partsB n h1 h2 s h3 h4) j hj
  simp only [Bool.and_eq_true, decide_eq_true_eq] at h
  exact ⟨h.1.1.1, h.1.1.2, h.1.2, h.2⟩
theorem J_few : ∀ n < 5, 1 ≤ n → ∀ s < 2 ^ n, 1 ≤ s → (J n s).length ≤ 1000 := by decide +kernel
theorem J_ways : ∀ n < 5, 1 ≤ n → ∀ s < 2 ^ n, 1 ≤ s → one s = none → (J n s).isEmpty = false := by decide +kernel
theorem J_one : ∀ n < 5, 1 ≤ n → ∀ s < 2 ^ n, 1 ≤ s → ∀ f ∈ one s, f < n := by decide +kernel
end Go.Proofs.YtjdffhonljhpcaaGreat.Pn
end

section
/-
  The groups' plans ahead of the first optimize; what optimize leaves.
-/
namespace Go.Proofs.YtjdffhonljhpcaaGreat
set_option linter.unusedSimpArgs false
set_option linter.unusedVariables false
open Go.RowKit

theorem OptMem.st {w : World} {B gm N : Nat} {F : Nat → Option Gb} {J : Nat → List (Nat × Nat)} {M : Nat → Pn.Bo} {all s : Nat} (h : OptMem w B gm N F J M all) (h1 : 1 ≤ s) (h2 : s ≤ all) :
    ∃ g0 ja jc, OptSt w B gm N J M all s (fun k => ((F k).map Gb.g).getD 0) g0 ja jc := by
  obtain ⟨x, hx⟩ := h.ex s h1 h2
  exact ⟨x.g, x.ja, x.jc, F, h, fun k y hy => by simp [hy], x, hx, rfl, rfl, rfl⟩
theorem OptSt.mem {w : World} {B gm N : Nat} {J : Nat → List (Nat × Nat)} {M : Nat → Pn.Bo} {all s g0 : Nat} {G : Nat → Nat} {ja : Option Addr} {jc : Nat} (h : OptSt w B gm N J M all s G g0 ja jc) : ∃ F, OptMem w B gm N F J M all := by
  obtain ⟨F, h1, -⟩ := h
  exact ⟨F, h1⟩
theorem OptMem.start {w : World} {B gm n : Nat} {F : Nat → Option Gb} (h : MemoIs w B gm F (Pn.mEnd n).1) (h1 : 1 ≤ n) (h4 : n < 5) :
    OptMem w B gm (Pn.mcnt (Pn.mEnd n).1) F (Pn.J n) (fun _ => ⟨none, none⟩) (2 ^ n - 1) := by
  refine ⟨h.at_, fun k k1 k2 => ?_, fun k x hx => ?_, fun k x hx => (h.nil k x hx).1, fun k x hx => (h.nil k x hx).2, h.size⟩
  · have e := h.js k
    have hs := Pn.J_some n h4 h1 k (by omega) k1
    rw [← e] at hs
    cases hF : F k with
    | none => rw [hF] at hs; cases hs
    | some x => exact ⟨x, rfl⟩
  · have e := h.js k
    rw [hx] at e
    unfold Pn.J Pn.mjs
    rw [← e]
    rfl
namespace Pn
theorem opt_some (x : PX) (J : Nat → List (Nat × Nat)) (M : Nat → Bo) (s : Nat) (h : (∃ f, one s = some f) ∨ J s ≠ []) : (opt x J M s).best.isSome = true := by
  have e : ∀ g : Bo, g.best.isSome = true → (optS x s g).best.isSome = true := by
    intro g hg
    unfold optS
    split
    · exact hg
    · exact hg
  refine e _ (fold_some _ (fun g a => rfl) _ _ ?_)
  rcases h with ⟨f, hf⟩ | h
  · refine .inl ?_
    unfold optA
    rw [hf]
    exact fold_some _ (fun g a => rfl) _ _ (.inr (access_ne _ _ _))
  · exact .inr h
theorem optAll_succ (x : PX) (J : Nat → List (Nat × Nat)) (s k : Nat) (M : Nat → Bo) : optAll x J s (k + 1) M = optAll x J (s + 1) k (setM M s (opt x J M s)) := rfl
end Pn
end Go.Proofs.YtjdffhonljhpcaaGreat
end

section
/-
  What is left of a plan that is copied into the answer's cell.
-/
namespace Go.Proofs.YtjdffhonljhpcaaGreat
set_option linter.unusedSimpArgs false
set_option linter.unusedVariables false
open Go.RowKit

/-- All parts of a plan are operators. -/
inductive PlNz : Pl → Prop
  | mk {l : Pl} : (∀ k ∈ l.kids, k.op ≠ 0) → (∀ k ∈ l.kids, PlNz k) → PlNz l
/-- A plan all parts of which can be read. -/
inductive PmRd (w : World) : Pm → Prop
  | mk {p : Pm} : ERow eInt w p.ea p.eq → ERow ePm w p.ka p.kids → (∀ k ∈ p.kids, PmRd w k) → p.eq.length ≤ 1000 → p.kids.length ≤ 1000 → PmRd w p
theorem PmRd.later {w W : World} {p : Pm} (h : PmRd w p) (hB : Below w.heap.size w W) : PmRd W p := by
  induction h with
  | mk h1 h2 h3 h4 h5 ih => exact .mk (h1.below hB) (h2.below hB) ih h4 h5
theorem PmRd.nil {w : World} : PmRd w Pm.nil := .mk ERow.nil ERow.nil (by intro k hk; cases hk) (Nat.zero_le _) (Nat.zero_le _)
theorem PmRd.eqr {w : World} {p : Pm} (h : PmRd w p) : ERow eInt w p.ea p.eq := by cases h with | mk h1 => exact h1
theorem PmRd.kidr {w : World} {p : Pm} (h : PmRd w p) : ERow ePm w p.ka p.kids := by cases h with | mk h1 h2 => exact h2
theorem PmRd.kid {w : World} {p : Pm} (h : PmRd w p) : ∀ k ∈ p.kids, PmRd w k := by cases h with | mk h1 h2 h3 => exact h3
theorem PmRd.eql {w : World} {p : Pm} (h : PmRd w p) : p.eq.length ≤ 1000 := by cases h with | mk h1 h2 h3 h4 => exact h4
theorem PmRd.kidl {w : World} {p : Pm} (h : PmRd w p) : p.kids.length ≤ 1000 := by cases h with | mk h1 h2 h3 h4 h5 => exact h5
theorem PmIn.rd0 {w W : World} {p : Pm} {g : Nat} (h : PmIn w p) (hb : Blk w g 44 Pm.nil.cells) (hg : w.grownBy W (some g)) : PlNz p.e → PmRd W p := by
  induction h with
  | @mk p h1 h2 h3 h4 h5 ih =>
    intro hn
    have hk : ∀ k ∈ p.kids, k.op ≠ 0 ∧ PlNz k.e := by
      intro k hk
      cases hn with
      | mk hn hn2 =>
        have hm : k.e ∈ p.e.kids := by rw [Pm.e_eq]; exact List.mem_map_of_mem hk
        have h := hn k.e hm
        rw [Pm.e_op] at h
        exact ⟨h, hn2 k.e hm⟩
    refine .mk (h1.kept hg ?_).row ?_ (fun k hk' => ih k hk' (hk k hk').2) h4 h5
    · exact .inr (fun e => map_block_ne (h1.ne_blk hb (by decide)) e.symm)
    · intro hl
      refine (h2.kept hg ?_).row hl
      rcases h2.form with ⟨-, -, e⟩ | ⟨g', e, -⟩
      · rw [e] at hl; exact absurd hl (by simp)
      · rw [e] at h2 ⊢
        refine .inr fun e2 => ?_
        simp at e2
        subst e2
        have c1 := h2.cell (j := 0) (k := 0) hl (v := .int .i64 p.kids[0].op) rfl
        have c2 := hb.cell 0
        rw [Nat.zero_mul, Nat.zero_add] at c1
        rw [c1] at c2
        have : p.kids[0].op = 0 := by
          have h : some (Value.int .i64 p.kids[0].op) = some (.int .i64 0) := c2
          simpa using h
        exact (hk _ (List.getElem_mem hl)).1 this
theorem PmIn.rd {w W : World} {p : Pm} {g : Nat} (h : PmIn w p) (hn : PlNz p.e) (hb : Blk w g 44 Pm.nil.cells) (hg : w.grownBy W (some g)) : PmRd W p := h.rd0 hb hg hn
end Go.Proofs.YtjdffhonljhpcaaGreat
end

section
/-
  More indexes, no greater cost; turned round, the same; plain.
-/
namespace Go.Proofs.YtjdffhonljhpcaaGreat
set_option linter.unusedSimpArgs false
set_option linter.unusedVariables false
namespace Pn
/-- The same query with other indexes. -/
def wd (x : PX) (D : List Df) : PX := { x with defs := D }
/-! ### nothing but the plans hangs on the indexes -/
section
variable (x : PX) (D : List Df)
theorem ofF_wd (at_ : Int) : ∀ k i, ofF (wd x D) at_ i k = ofF x at_ i k
  | 0, _ => rfl
  | k + 1, i => by
    show (if _ then _ else ofF (wd x D) at_ (i + 1) k) = (if _ then _ else ofF x at_ (i + 1) k)
    rw [ofF_wd at_ k (i + 1)]
    rfl
theorem ofT_wd (at_ : Int) : ofT (wd x D) at_ = ofT x at_ := ofF_wd x D at_ _ _
theorem asksK_wd (k at_ : Int) (l : List (Nat × Bool)) : asksK (wd x D) k at_ l = asksK x k at_ l := by
  unfold asksK
  rw [ofT_wd]
mutual
theorem asks_wd : ∀ n : Nd, asks (wd x D) n = asks x n
  | .mk k _ _ at_ _ _ _ args _ => by
    show asksK (wd x D) k at_ (asksL (wd x D) args) = asksK x k at_ (asksL x args)
    rw [asksK_wd, asksL_wd args]
theorem asksL_wd : ∀ l : List Nd, asksL (wd x D) l = asksL x l
  | [] => rfl
  | n :: l => by
    show asks (wd x D) n :: asksL (wd x D) l = asks x n :: asksL x l
    rw [asks_wd n, asksL_wd l]
end
theorem agHit_wd (y z : Nd) (op : List UInt8) (at_ : Int) (given : Nat) (ops : List (List UInt8)) : agHit (wd x D) y z op at_ given ops = agHit x y z op at_ given ops := by
  unfold agHit
  rw [asks_wd]
theorem agst_wd (n : Nd) (at_ : Int) (given : Nat) (ops : List (List UInt8)) : agst (wd x D) n at_ given ops = agst x n at_ given ops := by
  unfold agst
  simp only [agHit_wd]
theorem givF_wd (f : Int) (cols : List Int) (k : Nat) : ∀ (L : List So) (next : Nat), givF (wd x D) f cols k L next = givF x f cols k L next
  | [], _ => rfl
  | s :: L, next => by
    unfold givF
    rw [ofT_wd, givF_wd f cols k L next, givF_wd f cols k L (next + 1)]
    rfl
end

/-! ### the least of some -/
/-! ### the ways to read a table -/
theorem drop_cons {α : Type} {l L : List α} {d : α} {i : Nat} (h : d :: L = l.drop i) : l[i]? = some d ∧ L = l.drop (i + 1) := by
  have hi : i < l.length := by
    by_cases hi : i < l.length
    · exact hi
    · rw [List.drop_eq_nil_of_le (by omega)] at h; cases h
  rw [List.drop_eq_getElem_cons hi] at h
  cases h
  exact ⟨List.getElem?_eq_getElem hi, rfl⟩
theorem fits_at {x : PX} {f i : Nat} {d : Df} (h : x.defs[i]? = some d) : fits x f i = (decide (f < x.T.length) && fitsD x f d) := by
  obtain ⟨hi, e⟩ := List.getElem?_eq_some_iff.1 h
  unfold fits
  rw [Int.toNat_natCast, Int.toNat_natCast, List.getD_eq_getElem?_getD, h]
  congr 1
  exact decide_eq_decide.2 (by omega)
/-- An index of x that fits table f. -/
def IsFit (x : PX) (f : Nat) (d : Df) : Prop := f < x.T.length ∧ fitsD x f d = true
theorem mem_acc1 {x : PX} {f : Nat} {n : Int} {p : Pl} : ∀ (L : List Df) (i : Nat) (out : List Pl), L = x.defs.drop i → p ∈ accF x f n i L out → p ∈ out ∨ ∃ k d, x.defs[k]? = some d ∧ IsFit x f d ∧ p = mkRange x f n k d
  | [], i, out, _, h => .inl h
  | d :: L, i, out, hL, h => by
    obtain ⟨h1, h2⟩ := drop_cons hL
    rcases mem_acc1 L (i + 1) _ h2 h with h | h
    · split at h
      · next hf =>
        rw [fits_at h1, Bool.and_eq_true, decide_eq_true_eq] at hf
        rcases List.mem_append.1 h with h | h
        · exact .inl h
        · exact .inr ⟨i, d, h1, hf, List.mem_singleton.1 h⟩
      · exact .inl h
    · exact .inr h
/-! ### joins -/
def jStep (x : PX) (j : Nat × Nat) (l : Pl) (n : Int) (i : Nat) (d : Df) (out : Pl) : Pl := match one j.2 with
  | some f => if fits x f i && !(eqN x f d j.1).isEmpty then lessP out (mkLookup x j.1 f i d l n) else out
  | none => out
/-! ### a group -/
theorem optS_best (x : PX) (s : Nat) (g : Bo) : (optS x s g).best = g.best := by
  unfold optS
  split <;> rfl
/-! ### all groups -/
theorem ways {n s : Nat} (h1 : 1 ≤ n) (h4 : n < 5) (k1 : 1 ≤ s) (k2 : s < 2 ^ n) : (∃ f, one s = some f) ∨ J n s ≠ [] := by
  cases h : one s with
  | some f => exact .inl ⟨f, rfl⟩
  | none =>
    refine .inr fun e => ?_
    have := J_ways n h4 h1 s k2 k1 h
    rw [e] at this
    cases this
theorem set_some {M : Nat → Bo} {s : Nat} (hb : ∀ k, 1 ≤ k → k < s → (M k).best.isSome = true) {g : Bo} (hg : g.best.isSome = true) : ∀ k, 1 ≤ k → k < s + 1 → (setM M s g k).best.isSome = true := by
  intro k k1 k2
  unfold setM
  split
  · exact hg
  · exact hb k k1 (by omega)
theorem optAll_snoc (x : PX) (J : Nat → List (Nat × Nat)) : ∀ (k s : Nat) (M : Nat → Bo), optAll x J s (k + 1) M = setM (optAll x J s k M) (s + k) (opt x J (optAll x J s k M) (s + k))
  | 0, s, M => rfl
  | k + 1, s, M => by
    show optAll x J (s + 1) (k + 1) (setM M s (opt x J M s)) = _
    rw [optAll_snoc x J k (s + 1)]
    rw [show s + 1 + k = s + (k + 1) by omega]
    rfl
theorem optAll_some {x : PX} {n : Nat} (h1 : 1 ≤ n) (h4 : n < 5) : ∀ (k s : Nat) (M : Nat → Bo), 1 ≤ s → s + k ≤ 2 ^ n → (∀ i, 1 ≤ i → i < s → (M i).best.isSome = true) → ∀ i, 1 ≤ i → i < s + k → (optAll x (J n) s k M i).best.isSome = true
  | 0, _, _, _, _, hb => hb
  | k + 1, s, M, k1, k2, hb => by
    intro i i1 i2
    exact optAll_some h1 h4 k (s + 1) _ (by omega) (by omega) (set_some hb (opt_some _ _ _ _ (ways h1 h4 k1 (by omega : s < 2 ^ n)))) i i1 (by omega)

/-! ### is an order asked? -/
theorem sortsF_pow {x : PX} : ∀ (L : List So) (m : Nat), m < 2 ^ x.B.length → ∀ k, sortsF x L m = some k → k < 2 ^ x.B.length
  | [], m, h, k, e => by cases e; exact h
  | s :: L, m, h, k, e => by
    unfold sortsF at e
    split at e
    · cases e
    · have := ofT_le x s.at_
      exact sortsF_pow L _ (Nat.or_lt_two_pow h (Nat.pow_lt_pow_right (by omega) (by omega))) k e
theorem sorts_all {x : PX} (hB : x.B.length = x.T.length) : sub (sorts x).1 (2 ^ x.T.length - 1) = true := by
  have h : (sorts x).1 < 2 ^ x.T.length := by
    rw [sorts_eq, ← hB]
    cases e : sortsF x x.ord 0 with
    | none => exact Nat.two_pow_pos _
    | some k => exact sortsF_pow _ 0 (Nat.two_pow_pos _) k e
  unfold sub
  rw [Nat.and_two_pow_sub_one_eq_mod, Nat.mod_eq_of_lt h]
  simp
theorem opt_must {x : PX} {s : Nat} (hm : (sorts x).2 = true) (hs : sub (sorts x).1 s = true) {J : Nat → List (Nat × Nat)} {M : Nat → Bo} : (opt x J M s).ord.isSome = true := by
  unfold opt optS
  rw [if_pos ⟨hm, hs⟩]
  rfl
/-- What was chosen, said of all groups but the last. -/
theorem choose_eq {x : PX} (h1 : 1 ≤ x.T.length) : ∃ M, (optAll x (J x.T.length) 1 (2 ^ x.T.length - 1) (fun _ => ⟨none, none⟩)) (2 ^ x.T.length - 1) = opt x (J x.T.length) M (2 ^ x.T.length - 1) := by
  have h2 : 2 ≤ 2 ^ x.T.length := Nat.pow_le_pow_right (by omega : 0 < 2) h1
  obtain ⟨k, hk⟩ : ∃ k, 2 ^ x.T.length - 1 = k + 1 := ⟨2 ^ x.T.length - 2, by omega⟩
  rw [hk, optAll_snoc, show 1 + k = k + 1 by omega]
  exact ⟨_, if_pos rfl⟩
/-! ### what a plan costs and gives -/
end Pn
end Go.Proofs.YtjdffhonljhpcaaGreat
end

