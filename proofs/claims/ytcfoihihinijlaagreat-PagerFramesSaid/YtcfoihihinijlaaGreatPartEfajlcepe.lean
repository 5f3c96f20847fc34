/-
  Texts of a proof, one behind the other (each with its own head).
-/
import Derived.Test.YtcfoihihinijlaaGreatPartDoacdkeol
import Derived.Laws.IdiomStrings
import Derived.Test.YtcfoihihinijlaaGreatProg
import Derived.Shelf.SlLaysM
import Derived.Shelf.SlGeneric
import Derived.Sort.OwnSortedInts
import Derived.Shelf.SortM.Plain
import Derived.Shelf.SortM.SortNone
section
namespace Go.Proofs.YtcfoihihinijlaaGreat
set_option linter.unusedSimpArgs false
set_option linter.unusedVariables false
open Go.RowKit Go.Maps
namespace Pag
def zeroB : List UInt8 := List.replicate 512 0
def layC (d : DS) (blocks pages : Nat) : DS × Int :=
  if (d.write (home blocks 0 : Nat) (encode (MT.free pages))).2 ≠ 0 then d.write (home blocks 0 : Nat) (encode (MT.free pages))
  else if (d.write (home blocks 0 : Nat) (encode (MT.free pages))).1.flush.2 ≠ 0 then (d.write (home blocks 0 : Nat) (encode (MT.free pages))).1.flush
  else if ((d.write (home blocks 0 : Nat) (encode (MT.free pages))).1.flush.1.write (0 : Nat) (label blocks pages)).2 ≠ 0 then (d.write (home blocks 0 : Nat) (encode (MT.free pages))).1.flush.1.write (0 : Nat) (label blocks pages)
  else ((d.write (home blocks 0 : Nat) (encode (MT.free pages))).1.flush.1.write (0 : Nat) (label blocks pages)).1.flush
def lay1 (d : DS) (blocks pages : Nat) : DS × Int := if (d.write (2 : Nat) zeroB).2 ≠ 0 then d.write (2 : Nat) zeroB else layC (d.write (2 : Nat) zeroB).1 blocks pages
def layFrom (blocks pages : Nat) : Nat → DS → DS × Int
  | 0, d => if (d.write (1 : Nat) zeroB).2 ≠ 0 then d.write (1 : Nat) zeroB else lay1 (d.write (1 : Nat) zeroB).1 blocks pages
  | 1, d => lay1 d blocks pages
  | _ + 2, d => layC d blocks pages
theorem lay_from (d : DS) (blocks pages : Nat) : lay d blocks pages = layFrom blocks pages 0 d := rfl
theorem layFrom_step (blocks pages i : Nat) (hi : i < 2) (d : DS) : layFrom blocks pages i d = if (d.write ((1 + i : Nat) : Int) zeroB).2 ≠ 0 then d.write ((1 + i : Nat) : Int) zeroB else layFrom blocks pages (i + 1) (d.write ((1 + i : Nat) : Int) zeroB).1 := by
  rcases (show i = 0 ∨ i = 1 by omega) with rfl | rfl <;> rfl
end Pag
def pg0Cells (G : GB) (blocks pages : Nat) : List Value :=
  [.pointer (some ⟨G.k.gd, 0, none⟩), .pointer none, .pointer (some ⟨G.b.gp, 0, none⟩), .int .i64 (blocks : Nat), .int .i64 (pages : Nat), .slice none 0 0, .slice none 0 0, .map (some G.gm), .pointer none, .bool false]
structure Pg0 (w0 w : World) (G : GB) (n : Nat) (d : DS) (q : PS) (blocks pages : Nat) : Prop where
  blk : Blk w G.gp 119 (pg0Cells G blocks pages)
  dl : DL w0 w G.k d n
  pool : PoolX G.k.own w w0.heap.size G.b n q
  map : PMap w G.gm (pages + 1) (fun _ => none) Pag.none_
  mlo : w0.heap.size ≤ G.gm
  glo : w0.heap.size ≤ G.gp
  m1 : G.b.gm ≠ G.gm
  pages_ : pages ≤ 1600
  blocks_ : blocks ≤ 1000
section
variable {w0 w w' : World} {G : GB} {n n' blocks pages : Nat} {d d' : DS} {q : PS}
theorem Pg0.below (h : Pg0 w0 w G n d q blocks pages) (hb : Below w.heap.size w w') : Pg0 w0 w' G n d q blocks pages :=
  ⟨h.blk.below hb, h.dl.below hb, h.pool.offK (Keeps.nil hb) (Off.nil _ _) (Off.nil _ _) (fun h => h) (Off.nil _ _), h.map.below hb, h.mlo, h.glo, h.m1, h.pages_, h.blocks_⟩
theorem Pg0.disk (h : Pg0 w0 w G n d q blocks pages) (hd : DL w0 w' G.k d' n') (hk : Keeps w w' G.k.own) (hn : n ≤ n') : Pg0 w0 w' G n' d' q blocks pages := by
  have ha := h.dl.at_
  refine ⟨h.blk.offK hk (ha.off (by decide) (by decide)), hd, PoolX.mono ?_ hn, ?_, h.mlo, h.glo, h.m1, h.pages_, h.blocks_⟩
  · exact h.pool.offK hk (ha.off (by decide) (by decide)) (ha.off (by decide) (by decide)) (fun hs => ha.tagged _ hs h.pool.tags.2.2) (ha.off (by decide) (by decide))
  · exact h.map.offK hk (fun hs => ha.tagged _ hs h.map.map.tag) (ha.off (by decide) (by decide))
theorem Pg0.cells (h : Pg0 w0 w G n d q blocks pages) :
    (w.cell? ⟨G.gp, 0, none⟩ = some (.pointer (some ⟨G.k.gd, 0, none⟩)) ∧ w.cell? ⟨G.gp, 1, none⟩ = some (.pointer none) ∧ w.cell? ⟨G.gp, 2, none⟩ = some (.pointer (some ⟨G.b.gp, 0, none⟩)) ∧
      w.cell? ⟨G.gp, 3, none⟩ = some (.int .i64 (blocks : Nat)) ∧ w.cell? ⟨G.gp, 4, none⟩ = some (.int .i64 (pages : Nat))) ∧ w.frozen? ⟨G.gp, 1, none⟩ = false ∧ G.gp < w.heap.size :=
  ⟨⟨h.blk.cell 0, h.blk.cell 1, h.blk.cell 2, h.blk.cell 3, h.blk.cell 4⟩, h.blk.free 1, h.blk.lt⟩
end
set_option maxHeartbeats 400000 in
theorem phome0_any (w : World) (gp blocks : Nat) (h : w.cell? ⟨gp, 3, none⟩ = some (.int .i64 (blocks : Nat))) (hb : blocks ≤ 1000) (i : Nat) (hi : i ≤ 1600) : Calls Tryz.prog 107 #[.pointer (some ⟨gp, 0, none⟩), .int .i64 (i : Nat)] w fun e w' => e = .returned (.int .i64 (Pag.home blocks i : Nat)) ∧ w = w' := by
  go_enter Tryz.func107, Tryz.ntmps107
  go_wp2_with fail
  go_ret
  refine ⟨?_, rfl⟩
  unfold Pag.home
  congr 2
theorem phome0_zero (w : World) (gp blocks : Nat) (h : w.cell? ⟨gp, 3, none⟩ = some (.int .i64 (blocks : Nat))) (hb : blocks ≤ 1000) : Calls Tryz.prog 107 #[.pointer (some ⟨gp, 0, none⟩), .int .i64 0] w fun e w' => e = .returned (.int .i64 (Pag.home blocks 0 : Nat)) ∧ w = w' := phome0_any w gp blocks h hb 0 (by decide)
theorem encode_free (w : World) (pages : Nat) (hp : pages ≤ 1600) {B c : Nat} {A : Option Addr} (h : EOwn eBl w B A c (List.replicate (pages + 1) false)) : Calls Tryz.prog 52 #[.agg #[.slice A (pages + 1) c, .slice none 0 0]] w (RetB w (Pag.encode (Pag.MT.free pages))) := by
  have := encode_any w (Pag.MT.free pages) B A c none 0 h (by show (List.replicate _ _).length ≤ _; rw [List.length_replicate]; omega) BRow.nil (Nat.zero_le _)
  unfold mtV at this
  rw [show (Pag.MT.free pages).used.length = pages + 1 from List.length_replicate] at this
  exact this
def RetLay (w0 w : World) (G : GB) (n : Nat) (q : PS) (blocks pages : Nat) (r : DS × Int) (e : Ending) (w' : World) : Prop :=
  e = .returned (.int .i64 r.2) ∧ Pg0 w0 w' G n r.1 q blocks pages ∧ Keeps w w' G.k.own
theorem code_ne {c : Int} (h : c ≠ 0) : (c != 0) = true := by simpa using h
set_option maxRecDepth 20000 in
set_option maxHeartbeats 4000000 in
theorem play_any (w0 w : World) (G : GB) (n : Nat) (d : DS) (q : PS) (blocks pages : Nat) (h : Pg0 w0 w G n d q blocks pages) (hn : n + 6 < 1000000) :
    Calls Tryz.prog 70 #[.pointer (some ⟨G.gp, 0, none⟩)] w (RetLay w0 w G (n + 6) q blocks pages (Pag.lay d blocks pages)) := by
  have H0 := Lib.hid h
  obtain ⟨R, hR⟩ : ∃ R, Pag.lay d blocks pages = R := ⟨_, rfl⟩
  rw [hR]
  rw [Pag.lay_from] at hR
  have HR := Lib.hid hR
  clear h hR
  go_enter Tryz.func70, Tryz.ntmps70
  go_upto_region 2 with (refine wpList_make_zeros (B := w.heap.size) rfl _ _ rfl _ _ _ _ 512 rfl rfl rfl rfl (by decide) (Nat.le_refl _) ?_; intro W1 ho1 hb1)
  have H1 : Hid (Pg0 w0 W1 G n d q blocks pages ∧ BRowU W1 (some ⟨w.heap.size, 0, none⟩) Pag.zeroB ∧ Keeps w W1 G.k.own) := ⟨H0.out.below hb1, BRowU.own ho1, Keeps.of_below hb1⟩
  have hc1 := H1.out.1.cells
  clear ho1 hb1
  generalize w.heap.size = g3 at H1 ⊢
  go_wp2_with fail
  go_loopw [10] (fun iv wr => ∃ (i : Nat) (d' : DS), i ≤ 2 ∧ iv = .int .i64 (i : Int) ∧ Hid (Pag.layFrom blocks pages i d' = R ∧ Pg0 w0 wr G (n + i) d' q blocks pages ∧ BRowU wr (some ⟨g3, 0, none⟩) Pag.zeroB ∧ Keeps w wr G.k.own)) (fun iv _ => 2 - (intOf iv).toNat)
  case atStart => exact ⟨0, d, by decide, by go_num, HR.out, H1.out⟩
  case round =>
    obtain ⟨i, d', hi, rfl, HJ⟩ := hrel
    by_cases hlt : i < 2
    · have hii : (i : Int) < 2 := by omega
      have hst := Pag.layFrom_step blocks pages i hlt d'
      rw [HJ.out.1] at hst
      have HS := Lib.hid hst
      have hc := HJ.out.2.1.cells
      have HW := Lib.hid (HJ.out.2.1.dl.write (by omega) ((1 + i : Nat) : Int) (some ⟨g3, 0, none⟩) 512 Pag.zeroB HJ.out.2.2.1.row)
      rw [show Pag.zeroB.length = 512 from List.length_replicate, show ((1 + i : Nat) : Int) = 1 + (i : Int) from by omega] at HW
      clear hst
      go_wp2_with fail
      refine HW.out.mono ?_
      rintro e w2 ⟨rfl, hd2, hk2⟩
      have H2 : Hid (Pg0 w0 w2 G (n + i + 1) (d'.write (1 + (i : Int)) Pag.zeroB).1 q blocks pages ∧ BRowU w2 (some ⟨g3, 0, none⟩) Pag.zeroB ∧ Keeps w w2 G.k.own) := ⟨HJ.out.2.1.disk hd2 hk2 (by omega), HJ.out.2.2.1.offK hk2 (HJ.out.2.1.dl.at_.off (by decide) (by decide)), HJ.out.2.2.2.trans hk2⟩
      rw [show ((1 + i : Nat) : Int) = 1 + (i : Int) from by omega] at HS
      clear hd2 hk2
      by_cases hz : (d'.write (1 + (i : Int)) Pag.zeroB).2 = 0
      · rw [hz] at HS ⊢
        go_wp2_with fail
        go_roundw
        case rel => exact ⟨i + 1, _, by omega, by go_num, by simpa using HS.out.symm, H2.out⟩
        case measure => simp [intOf]; omega
      · have hz2 := code_ne hz
        have HS2 : Hid (R = d'.write (1 + (i : Int)) Pag.zeroB) := by show _ = _; rw [HS.out, if_pos hz]
        have HZ := Lib.hid hz
        clear hz HS
        rw [← HS2.out] at H2 hz2 ⊢
        go_wp2_with fail
        go_ret
        obtain ⟨h1, h2, h3⟩ := H2.out
        exact ⟨rfl, ⟨h1.blk, h1.dl.more (by omega), h1.pool.mono (by omega), h1.map, h1.mlo, h1.glo, h1.m1, h1.pages_, h1.blocks_⟩, h3⟩
    · obtain rfl : i = 2 := by omega
      have hC : Pag.layC d' blocks pages = R := HJ.out.1
      have HC := Lib.hid hC
      have hc := HJ.out.2.1.cells
      have hb1000 := HJ.out.2.1.blocks_
      have HPG := Lib.hid HJ.out.2.1.pages_
      have HB1 := Lib.hid hb1000
      have hpg := HJ.out.2.1.pages_
      clear hC
      have HENL : Hid ((Pag.encode (Pag.MT.free pages)).length = 512) := Pag.encode_length _ (by simp [Pag.MT.free])
      have HFU : Hid ((Pag.MT.free pages).used.length = pages + 1) := List.length_replicate
      go_upto_region 9 with fail
      go_cut [6] from 25 to 40 (fun v6 wx => Hid (v6 = .int .i64 (d'.write (Pag.home blocks 0 : Nat) (Pag.encode (Pag.MT.free pages))).2 ∧ Pg0 w0 wx G (n + 3) (d'.write (Pag.home blocks 0 : Nat) (Pag.encode (Pag.MT.free pages))).1 q blocks pages ∧ Keeps w wx G.k.own))
      case first =>
        have hB : Below wr.heap.size wr wr.drew := (Below.refl _ _).drew
        replace hc := (HJ.out.2.1.below hB).cells
        have hcc := hc.1.2.2.2.1
        refine wp_region_plan (.take 0 (.take 1 (.take 2 (.take 3 (.take 4 (.take 6 (.take 7 (.take 8 (.take 9 (.take 10 (.fork (.run 5 [0, 1, 2, 3, 6, 7, 8, 9, 10] (.run 11 [0, 1, 2, 3] (.take 12 (.run 13 [0, 1, 2, 3] (.run 14 [] (.take 15 .fin)))))) (.run 11 [0, 1, 2, 3, 4] (.take 12 (.run 5 [0, 1, 2, 3, 12] (.run 13 [0, 1, 2, 3] (.run 14 [] (.take 15 .fin))))))))))))))))) (by kernel_rfl) (by kernel_rfl) (by kernel_rfl) (by kernel_rfl) ?_
        repeat' (first
          | (refine hZ _ _ ?_; clear hZ)
          | (refine hZ _ ?_; clear hZ)
          | (refine hZ ?_; clear hZ)
          | rw [again_nil]
          | rw [walk_fin]
          | (rw [walk_fork]; refine ⟨?_, ?_⟩)
          | ((first | rw [walk_take] | rw [walk_run] | rw [again_cons]); intro Z hZ; simp only [sel, List.getElem?_toArray, List.getElem?_cons_zero, List.getElem?_cons_succ]; go_wp2_with (first
            | (refine wpList_make_elems eBl false rfl (B := 0) rfl _ _ rfl _ _ _ _ (pages + 1) rfl rfl (by omega) (by omega) (by omega) (Nat.zero_le _) ?_; intro W hu hn; replace hB := hB.then hn; replace hc := (HJ.out.2.1.below hB).cells; replace hcc := hc.1.2.2.2.1; clear hn)))
          | (refine (phome0_zero _ _ blocks hcc hb1000).mono ?_; rintro e W ⟨rfl, rfl⟩; go_wp2_with fail)
          | (refine (encode_free _ pages hpg hu).mono ?_; rintro e W ⟨A3, c3, rfl, ho3, hn3⟩; replace hB := hB.then hn3; replace hc := (HJ.out.2.1.below hB).cells; replace hcc := hc.1.2.2.2.1; clear hn3; go_wp2_with fail)
          | (refine ((HJ.out.2.1.below hB).dl.write (by omega) _ A3 c3 _ ho3.row).mono ?_; rintro e W ⟨rfl, hd3, hk3⟩; go_wp2_with fail))
        all_goals go_wp2_with fail
        all_goals go_meet
        all_goals (case rel => exact ⟨rfl, (HJ.out.2.1.below hB).disk hd3 hk3 (by omega), HJ.out.2.2.2.trans ((Keeps.of_below hB).trans hk3)⟩)
      case rest =>
        obtain ⟨rfl, hp3, hk3⟩ := hcut.out
        have hfin : ∀ (x : DS) (m : Nat) (W : World), m ≤ n + 6 → Pg0 w0 W G m x q blocks pages → Pg0 w0 W G (n + 6) x q blocks pages := fun x m W hm h1 => ⟨h1.blk, h1.dl.more hm, h1.pool.mono hm, h1.map, h1.mlo, h1.glo, h1.m1, h1.pages_, h1.blocks_⟩
        have HCC := Lib.hid HC.out
        unfold Pag.layC at HCC
        generalize hD1 : d'.write (Pag.home blocks 0 : Nat) (Pag.encode (Pag.MT.free pages)) = D1 at *
        have H3 := Lib.hid (And.intro hp3 hk3)
        have hc := hp3.cells
        by_cases hz : D1.2 = 0
        · have HCD : Hid ((if D1.1.flush.2 ≠ 0 then D1.1.flush else if (D1.1.flush.1.write (0 : Nat) (Pag.label blocks pages)).2 ≠ 0 then D1.1.flush.1.write (0 : Nat) (Pag.label blocks pages) else (D1.1.flush.1.write (0 : Nat) (Pag.label blocks pages)).1.flush) = R) := by
            show _ = _
            have := HCC.out
            rw [if_neg (by rw [hz]; simp)] at this
            exact this
          have HFL := Lib.hid (hp3.dl.flush (by omega))
          rw [hz]
          clear hz hp3 hk3 HCC hcut
          go_wp2_with fail
          refine HFL.out.mono ?_
          rintro e w4 ⟨rfl, hd4, hk4⟩
          have hp4 := H3.out.1.disk hd4 hk4 (by omega)
          have H4 := Lib.hid (And.intro hp4 (H3.out.2.trans hk4))
          have hc := hp4.cells
          generalize D1.1.flush = D2 at *
          clear hd4 hk4
          by_cases hz : D2.2 = 0
          · have HCE : Hid ((if (D2.1.write (0 : Nat) (Pag.label blocks pages)).2 ≠ 0 then D2.1.write (0 : Nat) (Pag.label blocks pages) else (D2.1.write (0 : Nat) (Pag.label blocks pages)).1.flush) = R) := by
              show _ = _
              have := HCD.out
              rw [if_neg (by rw [hz]; simp)] at this
              exact this
            rw [hz]
            have hbd : Below w4.heap.size w4 w4.drew := (Below.refl _ _).drew
            have HLB := Lib.hid (label_any w4.drew blocks pages (by omega) (by omega))
            clear hz HCD hp4 hbd
            go_wp2_with fail
            refine wp_region_plan (.take 0 (.take 1 (.take 2 (.take 3 (.take 4 (.take 5 (.take 6 (.take 7 (.take 8 (.take 9 (.take 10 (.take 11 (.run 12 [0, 1, 2, 3] (.run 13 [] (.take 14 .fin))))))))))))))) (by kernel_rfl) (by kernel_rfl) (by kernel_rfl) (by kernel_rfl) ?_
            repeat' (first | (refine hZ _ _ ?_; clear hZ) | (refine hZ _ ?_; clear hZ) | (refine hZ ?_; clear hZ) | rw [again_nil] | rw [walk_fin] | ((first | rw [walk_take] | rw [walk_run] | rw [again_cons]); intro Z hZ; simp only [sel, List.getElem?_toArray, List.getElem?_cons_zero, List.getElem?_cons_succ]; go_wp2_with (fail)))
            refine HLB.out.mono ?_
            rintro e w5 ⟨A5, c5, rfl, ho5, hb5⟩
            have hbd : Below w4.heap.size w4 w5 := (Below.refl _ _).drew.trans hb5
            have hp5 := H4.out.1.below hbd
            have hc := hp5.cells
            have HWR := Lib.hid (hp5.dl.write (by omega) ((0 : Nat) : Int) A5 c5 _ ho5.row)
            have H5 := Lib.hid (And.intro hp5 (H4.out.2.then hbd))
            clear ho5 hb5 hbd hp5
            go_wp2_with fail
            repeat' (first | (refine hZ _ _ ?_; clear hZ) | (refine hZ _ ?_; clear hZ) | (refine hZ ?_; clear hZ) | rw [again_nil] | rw [walk_fin] | ((first | rw [walk_take] | rw [walk_run] | rw [again_cons]); intro Z hZ; simp only [sel, List.getElem?_toArray, List.getElem?_cons_zero, List.getElem?_cons_succ]; go_wp2_with (fail)))
            refine (show Calls _ _ #[_, .int .i64 0, _] _ _ from HWR.out).mono ?_
            rintro e w6 ⟨rfl, hd6, hk6⟩
            have hp6 := H5.out.1.disk hd6 hk6 (by omega)
            have H6 := Lib.hid (And.intro hp6 (H5.out.2.trans hk6))
            have hc := hp6.cells
            clear hd6 hk6
            generalize D2.1.write ((0 : Nat) : Int) (Pag.label blocks pages) = D3 at *
            by_cases hz : D3.2 = 0
            · have HCF : Hid (D3.1.flush = R) := by
                show _ = _
                have := HCE.out
                rw [if_neg (by rw [hz]; simp)] at this
                exact this
              rw [hz]
              have HFL := Lib.hid (hp6.dl.flush (by omega))
              clear hz HCE hp6
              go_wp2_with fail
              repeat' (first | (refine hZ _ _ ?_; clear hZ) | (refine hZ _ ?_; clear hZ) | (refine hZ ?_; clear hZ) | rw [again_nil] | rw [walk_fin] | ((first | rw [walk_take] | rw [walk_run] | rw [again_cons]); intro Z hZ; simp only [sel, List.getElem?_toArray, List.getElem?_cons_zero, List.getElem?_cons_succ]; go_wp2_with (fail)))
              go_wp2_with fail
              refine HFL.out.mono ?_
              rintro e w7 ⟨rfl, hd7, hk7⟩
              have H7 := Lib.hid (And.intro (H6.out.1.disk hd7 hk7 (by omega)) (H6.out.2.trans hk7))
              rw [HCF.out] at H7 ⊢
              clear hd7 hk7
              go_wp2_with fail
              go_ret
              exact ⟨rfl, H7.out.1, H7.out.2⟩
            · have HCF : Hid (D3 = R) := by
                show _ = _
                have := HCE.out
                rw [if_pos hz] at this
                exact this
              have hz2 := code_ne hz
              rw [HCF.out] at H6 hz2 ⊢
              clear hz HCE hp6
              go_wp2_with fail
              repeat' (first | (refine hZ _ _ ?_; clear hZ) | (refine hZ _ ?_; clear hZ) | (refine hZ ?_; clear hZ) | rw [again_nil] | rw [walk_fin] | ((first | rw [walk_take] | rw [walk_run] | rw [again_cons]); intro Z hZ; simp only [sel, List.getElem?_toArray, List.getElem?_cons_zero, List.getElem?_cons_succ]; go_wp2_with (fail)))
              go_wp2_with fail
              go_ret
              exact ⟨rfl, hfin _ _ _ (by omega) H6.out.1, H6.out.2⟩
          · have HCE : Hid (D2 = R) := by
              show _ = _
              have := HCD.out
              rw [if_pos hz] at this
              exact this
            have hz2 := code_ne hz
            rw [HCE.out] at H4 hz2 ⊢
            clear hz HCD hp4
            go_wp2_with fail
            go_ret
            exact ⟨rfl, hfin _ _ _ (by omega) H4.out.1, H4.out.2⟩
        · have HCD : Hid (D1 = R) := by
            show _ = _
            have := HCC.out
            rw [if_pos hz] at this
            exact this
          have hz2 := code_ne hz
          rw [HCD.out] at H3 hz2 ⊢
          clear hz hp3 hk3 HCC hcut
          go_wp2_with fail
          go_ret
          exact ⟨rfl, hfin _ _ _ (by omega) H3.out.1, H3.out.2⟩
end Go.Proofs.YtcfoihihinijlaaGreat
end

section
namespace Go.Proofs.YtcfoihihinijlaaGreat
set_option linter.unusedSimpArgs false
set_option linter.unusedVariables false
open Go.RowKit
def OpenOk (w0 w : World) (k : KB) (n : Nat) (r : OR) (e : Ending) (w' : World) : Prop :=
  (r.e = 0 → ∃ g A c ps, e = .returned (.tuple #[.pointer (some ⟨g, 0, none⟩), .slice A (List.length ps) c, .int .i64 0]) ∧ w.heap.size ≤ g ∧ WL w0 w' k g r.d r.l (n + 2) ∧ EOwn ePart w' w.heap.size A c ps ∧ PartsX k.own w' ps r.recs ∧ Keeps w w' k.own) ∧
  (r.e ≠ 0 → e = .returned (.tuple #[.pointer none, .slice none 0 0, .int .i64 r.e]) ∧ DL w0 w' k r.d (n + 2) ∧ Keeps w w' k.own)
theorem open_bad {w0 w w' : World} {k : KB} {n : Nat} {r : OR} {c : Int} (h : r.e = c) (hc : c ≠ 0) (hd : DL w0 w' k r.d (n + 2)) (hk : Keeps w w' k.own) : OpenOk w0 w k n r (.returned (.tuple #[.pointer none, .slice none 0 0, .int .i64 c])) w' := by
  subst h
  exact ⟨fun h => absurd h hc, fun _ => ⟨rfl, hd, hk⟩⟩
set_option maxRecDepth 100000 in
set_option maxHeartbeats 4000000 in
theorem open_any (w0 w : World) (k : KB) (d : DS) (n : Nat) (hL : DL w0 w k d n) (hn : n + 2 < 1000000) (at_ blocks : Nat) (h3 : 3 ≤ blocks) (h1000 : blocks ≤ 1000) (hin : at_ + blocks ≤ d.blocks.length) :
    Calls Tryz.prog 115 #[.pointer (some ⟨k.gd, 0, none⟩), .int .i64 (at_ : Nat), .int .i64 (blocks : Nat)] w (OpenOk w0 w k n (d.openW at_ ((blocks - 2) * 512))) := by
  have H0 := Lib.hid hL
  have hb1 := hL.good.b1
  have HB := Lib.hid (blocks_any w _ k d hL.at_)
  obtain ⟨room, hroom⟩ : ∃ room, room = (blocks - 2) * 512 := ⟨_, rfl⟩
  rw [← hroom]
  have hr1 : (blocks : Int) * 512 - 1024 = (room : Int) := by omega
  have hrm : room ≤ 511000 := by omega
  have hat : at_ ≤ 5000 := by omega
  have hf0 : ¬ (at_ : Int) < 0 := by omega
  have hf1 : ¬ (blocks : Int) < 3 := by omega
  have hf2 : ¬ (d.blocks.length : Int) < (blocks : Int) := by omega
  have hf3 : ¬ (d.blocks.length : Int) - (blocks : Int) < (at_ : Int) := by omega
  have hr2 : ((blocks : Int) - 2) * 512 = (room : Int) := by omega
  have hq1 : decide (d.blocks.length < blocks) = false := by simp; omega
  have hq2 : decide ((d.blocks.length : Int) - (blocks : Int) < (at_ : Int)) = false := by simp; omega
  clear hL
  go_enter Tryz.func115, Tryz.ntmps115
  go_wp2_with fail
  refine HB.out.mono ?_
  rintro e w1 ⟨rfl, rfl⟩
  go_wp2_with fail
  refine HB.out.mono ?_
  rintro e w1 ⟨rfl, rfl⟩
  clear HB
  go_wp2_with fail
  clear hf0 hf1 hf2 hf3 hq1 hq2
  simp only [show ((blocks - 2 : Nat) : Int) * 512 = (room : Int) from by omega]
  have HROOM := Lib.hid hroom
  clear hroom hr1 hr2
  generalize hW1 : World.alloc w (.cells _ _) = W1
  obtain ⟨ba1, hz1, hB1⟩ := fresh1 hW1
  clear hW1
  have HK0 := Lib.hid H0.out.own_lt
  have HW : Hid (WL w0 W1 k w.heap.size d ⟨at_, room, 0, [], 0, false⟩ n) := ⟨H0.out.below hB1, LogAt.fresh ba1 H0.out.bel.size HK0.out hat hrm⟩
  have HB1 := Lib.hid hB1
  clear ba1 hz1 hB1
  obtain ⟨g, hg⟩ : ∃ g, g = w.heap.size := ⟨_, rfl⟩
  rw [← hg] at HW ⊢
  have HG := Lib.hid hg
  clear hg
  have HIN := Lib.hid hin
  cases hd : d.down with
  | true =>
    have HWY : Hid (d.why (at_ : Int) = 6) := by show _ = _; unfold DS.why; rw [if_pos hd]
    have HO : Hid (d.openW at_ room = ⟨d, .dead at_ room, [], 6⟩) := by show _ = _; unfold DS.openW; rw [if_pos hd]
    clear hd
    go_loopw [54] (fun iv wr => iv = .int .i64 0 ∧ Hid (wr = W1)) (fun iv _ => 2 - (intOf iv).toNat)
    case atStart => exact ⟨rfl, rfl⟩
    case round =>
      obtain ⟨rfl, HR⟩ := hrel
      have hrd := read_bad wr _ k d (by rw [HR.out]; exact HW.out.dl.at_) (at_ : Int) (by rw [HWY.out]; decide)
      rw [HWY.out] at hrd
      have HRD := Lib.hid hrd
      clear hrd
      go_wp2_with fail
      refine HRD.out.mono ?_
      rintro e w2 ⟨rfl, rfl⟩
      go_wp2_with fail
      go_ret3
      rw [HO.out, HR.out]
      exact open_bad rfl (by decide) (HW.out.dl.more (by omega)) (Keeps.of_below HB1.out)
  | false =>
    have HD := Lib.hid hd
    have HO : Hid (d.openW at_ room = if (d.pick at_ room).1 = 0 then
        (if (d.head at_ 1 0).2 ≠ 0 then ⟨(d.head at_ 1 0).1, .dead at_ room, [], (d.head at_ 1 0).2⟩ else ⟨(d.head at_ 1 0).1, ⟨at_, room, 1, [], 0, false⟩, [], 0⟩)
      else (if (Wal.records (d.body at_ (d.pick at_ room).2)).2 ≠ 0 then ⟨d, .dead at_ room, [], (Wal.records (d.body at_ (d.pick at_ room).2)).2⟩
        else ⟨d, ⟨at_, room, (d.pick at_ room).1, d.body at_ (d.pick at_ room).2, (Wal.records (d.body at_ (d.pick at_ room).2)).1.length, false⟩, (Wal.records (d.body at_ (d.pick at_ room).2)).1, 0⟩)) := by
      show _ = _; unfold DS.openW; rw [if_neg (by rw [hd]; decide)]
    clear hd
    go_loopw [10, 54] (fun nv iv wr => ∃ i m : Nat, i ≤ 2 ∧ iv = .int .i64 i ∧ nv = .int .i64 (m : Nat) ∧ Hid (m = (d.picks at_ room i).2 ∧ WL w0 wr k g d ⟨at_, room, (d.picks at_ room i).1, [], 0, false⟩ n ∧ Below w.heap.size w wr)) (fun _ iv _ => 2 - (intOf iv).toNat)
    case atStart => exact ⟨0, 0, by omega, rfl, rfl, rfl, HW.out, HB1.out⟩
    case round =>
      obtain ⟨i, m, hi, rfl, rfl, HJ⟩ := hrel
      clear HW HB1
      rcases Nat.lt_or_ge i 2 with hlt | hge
      · have hii : (i : Int) < 2 := by omega
        have hbl : at_ + i < d.blocks.length := by have := HIN.out; omega
        have HRD := Lib.hid (read_blk wr _ k d HJ.out.2.1.dl.at_ (at_ + i) hbl HD.out ((at_ : Int) + (i : Int)) (by omega))
        have HPS : Hid (d.picks at_ room (i + 1) = if (d.picks at_ room i).1 < (Wal.right (d.block (at_ + i)) room).1 then Wal.right (d.block (at_ + i)) room else d.picks at_ room i) := rfl
        have HPL := Lib.hid (d.picks_le at_ room i)
        go_wp2_with fail
        refine HRD.out.mono ?_
        rintro e w2 ⟨A2, c2, rfl, ho2, hb2⟩
        have HRT := Lib.hid (right_any w2 A2 c2 (d.block (at_ + i)) ho2.row (DS.block_length _ _) (by have := ho2.cap; rw [DS.block_length] at this; exact this) room (by omega))
        have H2 := Lib.hid (And.intro (HJ.out.2.1.below hb2) (HJ.out.2.2.trans (hb2.mono HJ.out.2.2.size)))
        obtain ⟨A0, c0, hc, hc2, -⟩ := H2.out.1.log.cells
        have HRL := Lib.hid (Wal.right_le (d.block (at_ + i)) room)
        generalize Wal.right (d.block (at_ + i)) room = rr at HRT HPS HRL
        obtain ⟨s1, m1⟩ := rr
        generalize hpp : d.picks at_ room i = pp at HPS hc H2 HPL HJ
        obtain ⟨s0, m0⟩ := pp
        have HPP := Lib.hid hpp
        clear ho2 hb2 HRD hpp
        simp only at hc HRT HPS HRL HPL
        go_wp2_with fail
        refine HRT.out.mono ?_
        rintro e w3 ⟨rfl, hb3⟩
        have H3 := Lib.hid (And.intro (H2.out.1.below hb3) (H2.out.2.trans (hb3.mono H2.out.2.size)))
        clear hb3 HRT hc hc2 H2
        obtain ⟨A0, c0, hc, hc2, -⟩ := H3.out.1.log.cells
        rcases Nat.lt_or_ge s0 s1 with hss | hss
        · have hs1 : (s0 : Int) < (s1 : Int) := by omega
          have HP1 : Hid (d.picks at_ room (i + 1) = (s1, m1)) := by show _ = _; rw [HPS.out, if_pos hss]
          clear hss
          go_wp2_with fail
          go_roundw
          case rel => exact ⟨i + 1, m1, by omega, by go_num, rfl, by rw [HP1.out], by rw [HP1.out]; exact H3.out.1.store (grown_store _ _ _ _) (H3.out.1.log.setSeq HRL.out.2), H3.out.2.setCell (p := ⟨g, 3, none⟩) (by rw [HG.out]; exact Nat.le_refl _) _⟩
          case measure => simp [intOf]; omega
        · have hs1 : ¬ (s0 : Int) < (s1 : Int) := by omega
          have HP1 : Hid (d.picks at_ room (i + 1) = (s0, m0)) := by show _ = _; rw [HPS.out, if_neg (by omega)]
          clear hss
          go_wp2_with fail
          go_roundw
          case rel => exact ⟨i + 1, m, by omega, by go_num, rfl, by rw [HP1.out]; exact HJ.out.1, by rw [HP1.out]; exact H3.out.1, H3.out.2⟩
          case measure => simp [intOf]; omega
      · obtain rfl : i = 2 := by omega
        rw [DS.picks_two] at HJ
        have hpr : (d.pick at_ room).2 ≤ room := by have := (d.picks_le at_ room 2).1; rwa [DS.picks_two] at this
        generalize d.pick at_ room = pp at HJ HO hpr
        obtain ⟨s1, m1⟩ := pp
        simp only at HJ HO hpr
        obtain rfl : m = m1 := HJ.out.1
        obtain ⟨A0, c0, hc, hc2, -⟩ := HJ.out.2.1.log.cells
        simp only at hc
        clear hi hge
        rcases Nat.eq_zero_or_pos s1 with hs | hs
        · subst hs
          rw [if_pos rfl] at HO
          have HH := Lib.hid (head_any w0 wr k g n d _ HJ.out.2.1 hn 1 0 (by decide) (by omega))
          unfold HeadOk LS.headed at HH
          simp only at HH
          generalize d.head at_ 1 0 = rr at HH HO
          obtain ⟨d2, e2⟩ := rr
          go_wp2_with fail
          refine HH.out.mono ?_
          rintro e w3 ⟨rfl, hw3, hk3⟩
          have HK3 := Lib.hid (keeps_new HJ.out.2.2 hk3 (by rw [HG.out]; exact Nat.le_refl _))
          have HW3 := Lib.hid hw3
          clear HH hw3 hk3 hc hc2
          rcases Classical.em (e2 = 0) with he | he
          · subst he
            rw [if_neg (by simp)] at HO
            rw [if_pos rfl] at HW3
            go_wp2_with fail
            go_ret3
            rw [HO.out]
            exact ⟨fun _ => ⟨g, none, 0, [], rfl, by rw [HG.out]; exact Nat.le_refl _, HW3.out, EOwn.nil _ _, ⟨rfl, fun p hp => by cases hp⟩, HK3.out⟩, fun h => absurd rfl h⟩
          · have he1 : (e2 != 0) = true := by simpa using he
            rw [if_pos he] at HO
            have HE := Lib.hid he
            clear he
            go_wp2_with fail
            go_ret3
            rw [HO.out]
            exact open_bad rfl HE.out HW3.out.dl HK3.out
        · have hs0 : ((s1 : Int) == 0) = false := by simp; omega
          rw [if_neg (by omega)] at HO
          go_wp2_with fail
          have HJ2 := Lib.hid HJ.out.2
          clear HJ hc hc2 hs hs0
          obtain ⟨wo, rfl⟩ : ∃ wo : World, wo = wr := ⟨_, rfl⟩
          go_loopw [17, 18] (fun av iv wq => ∃ (j q : Nat) (Aa : Option Addr) (ca : Nat), iv = .int .i64 (q : Nat) ∧ av = .slice Aa q ca ∧ q = j * 512 ∧ q < m + 512 ∧ Hid (BOwn wq wo.heap.size Aa ca (d.bytes (at_ + 2) j) ∧ Below wo.heap.size wo wq)) (fun _ iv _ => m + 512 - (intOf iv).toNat)
          case atStart => exact ⟨0, 0, none, 0, rfl, rfl, rfl, by omega, BOwn.nil _ _, Below.refl _ _⟩
          case round =>
            obtain ⟨j, q, Aa, ca, rfl, rfl, hqj, hqm, HJ⟩ := hrel
            have HWQ := Lib.hid (HJ2.out.1.below HJ.out.2)
            rcases Nat.lt_or_ge q m with hlt | hge
            · have hii : (q : Int) < (m : Int) := by omega
              have hbl : at_ + 2 + j < d.blocks.length := by have := HIN.out; have := HROOM.out; omega
              have HRD := Lib.hid (read_blk wr _ k d HWQ.out.dl.at_ (at_ + 2 + j) hbl HD.out ((at_ : Int) + 2 + (j : Int)) (by omega))
              have hqd : (q : Int) / 512 = (j : Int) := by omega
              have hql : q = (d.bytes (at_ + 2) j).length := by rw [DS.bytes_length]; exact hqj
              have HQ := Lib.hid (And.intro hqj hql)
              have hq6 : q ≤ 512000 := by omega
              clear hqj hql
              go_wp2_with fail
              refine HRD.out.mono ?_
              rintro e w5 ⟨A5, c5, rfl, ho5, hb5⟩
              have H5 := Lib.hid (And.intro (HJ.out.1.below hb5) (And.intro (HJ.out.2.trans (hb5.mono HJ.out.2.size)) ho5.row))
              clear ho5 hb5 HRD HJ
              have HBL := Lib.hid (DS.block_length d (at_ + 2 + j))
              go_wp2_with (at_builtin; refine wpList_append_bytes rfl (.tmp 118) (.tmp 119) rfl q rfl H5.out.1 HQ.out.2 512 rfl H5.out.2.2 HBL.out.symm (by rw [← HQ.out.2, HBL.out]; omega) H5.out.2.1.size ?_; intro A6 c6 w6 ho6 hb6 _ _)
              go_roundw
              case rel => exact ⟨j + 1, q + 512, A6, c6, by go_num, by rw [← HQ.out.2, HBL.out], by have := HQ.out.1; omega, by omega, by rw [DS.bytes_succ]; exact ho6, H5.out.2.1.trans hb6⟩
              case measure => simp [intOf]; omega
            · have hii : ¬ (q : Int) < (m : Int) := by omega
              have HBY : Hid (d.body at_ m = (d.bytes (at_ + 2) j).take m) := by
                show _ = _
                unfold DS.body
                rw [show (m + 511) / 512 = j from by omega]
              have hca := HJ.out.1.cap
              rw [DS.bytes_length, ← hqj] at hca
              have hsl := cut_h Aa q ca (m : Int) m rfl (by omega)
              have HCP := Lib.hid (bclip_any wr Aa m ca (by omega))
              obtain ⟨A0, c0, hc, hc2, -⟩ := HWQ.out.log.cells
              simp only at hc
              have HLN := Lib.hid (d.body_length at_ m)
              have HBX : Hid (BRowX k.own wr Aa (d.body at_ m)) := by
                rw [HBY.out]
                refine ⟨HJ.out.1.row.take m, fun _ a ha => ⟨fun hs => ?_, HJ.out.1.u8 a ha⟩⟩
                have h1 := (HJ.out.1.block a ha).1
                have h2 := HJ2.out.1.dl.own_lt _ hs
                omega
              have HBB : Hid (Below w.heap.size w wr) := HJ2.out.2.trans (HJ.out.2.mono HJ2.out.2.size)
              have hml : m ≤ maxLen := by unfold maxLen; omega
              have HML := Lib.hid hml
              clear hqj hml HJ HBY
              go_wp2_with fail
              refine HCP.out.mono ?_
              rintro e w5 ⟨⟨A5, rfl, rfl⟩, rfl⟩
              go_wp2_with fail
              have HL4 : Hid (WL w0 (wr.setCell ⟨g, 4, none⟩ (.slice A5 m m)) k g d ⟨at_, room, s1, d.body at_ m, 0, false⟩ n ∧ Below w.heap.size w (wr.setCell ⟨g, 4, none⟩ (.slice A5 m m)) ∧ BRow (wr.setCell ⟨g, 4, none⟩ (.slice A5 m m)) A5 (d.body at_ m)) := by
                have := HWQ.out.log.set4 (A := A5) (c := m) (b := d.body at_ m) HBX.out (by rw [HLN.out]; exact Nat.le_refl _) HML.out (by rw [HLN.out]; exact hpr) (Nat.zero_le _)
                rw [HLN.out] at this
                obtain ⟨cs, hbk⟩ := HWQ.out.log.blk
                exact ⟨HWQ.out.store (grown_store _ _ _ _) this, HBB.out.setCell (p := ⟨g, 4, none⟩) (by rw [HG.out]; exact Nat.le_refl _) _, (HBX.out.blk hbk (by decide) (grown_store _ _ _ _)).row⟩
              clear hc hc2 hsl
              generalize (World.setCell wr ⟨g, 4, none⟩ (.slice A5 m m)) = w6 at HL4 ⊢
              have hpa := parse_any k.own w6 HL4.out.1.dl.own_lt A5 m (d.body at_ m) HL4.out.2.2 (by rw [HLN.out]; omega) (by rw [HLN.out]; exact Nat.le_refl _) (by have := HML.out; unfold maxLen at this; exact this)
              rw [HLN.out] at hpa
              have HPA := Lib.hid hpa
              have HRL := Lib.hid (records_length (d.body at_ m))
              clear hpa
              generalize Wal.records (d.body at_ m) = rr at HPA HO HRL
              obtain ⟨rs, e7⟩ := rr
              simp only at HO HRL
              refine HPA.out.mono ?_
              rintro e w7 ⟨A7, c7, ps, rfl, ho7, hp7, hb7⟩
              have H7 := Lib.hid (And.intro (HL4.out.1.below hb7) (And.intro (HL4.out.2.1.trans (hb7.mono HL4.out.2.1.size)) (And.intro (ho7.mono HL4.out.2.1.size) hp7)))
              have hpl : ps.length = rs.length := by
                have hp1 : ps.map (·.l) = rs := hp7.1
                rw [← hp1]; simp
              have HPL := Lib.hid hpl
              clear ho7 hp7 hb7 HPA hpl
              obtain ⟨A0, c0, hc, hc2, -⟩ := H7.out.1.log.cells
              simp only at hc
              rcases Classical.em (e7 = 0) with he | he
              · subst he
                rw [if_neg (by simp)] at HO
                go_wp2_with fail
                go_ret3
                rw [HO.out]
                obtain ⟨cs, hbk⟩ := H7.out.1.log.blk
                refine ⟨fun _ => ⟨g, A7, c7, ps, rfl, by rw [HG.out]; exact Nat.le_refl _, ?_, ?_, ?_, ?_⟩, fun h => absurd rfl h⟩
                · have := H7.out.1.log.set5 (n := rs.length) HRL.out
                  rw [← HPL.out] at this ⊢
                  exact ⟨(H7.out.1.store (grown_store _ _ _ _) this).dl.more (by omega), this⟩
                · exact H7.out.2.2.1.keptG hbk (by decide) (grown_store _ _ _ _)
                · exact H7.out.2.2.2.keepB (by simp) fun i hu _ => heap_setCell_other _ _ _ _ (by
                    rintro rfl
                    obtain ⟨cur, fr, hq⟩ := hu
                    rw [hbk] at hq
                    simp only [Option.some.injEq, Obj.cells.injEq] at hq
                    exact absurd hq.2.1 (by decide))
                · exact Keeps.of_below (H7.out.2.1.setCell (p := ⟨g, 5, none⟩) (by rw [HG.out]; exact Nat.le_refl _) _)
              · have he1 : (e7 != 0) = true := by simpa using he
                rw [if_pos he] at HO
                have HE := Lib.hid he
                clear he
                go_wp2_with fail
                go_ret3
                rw [HO.out]
                exact open_bad rfl HE.out (H7.out.1.dl.more (by omega)) (Keeps.of_below H7.out.2.1)
end Go.Proofs.YtcfoihihinijlaaGreat
end

section
namespace Go.Proofs.YtcfoihihinijlaaGreat
set_option linter.unusedSimpArgs false
set_option linter.unusedVariables false
open Go.RowKit Go.Maps
section
variable {w0 w w' : World} {G : GB} {n : Nat} {g : Pag.PG} {x : Nat} {T : TypeId} {cs : List Value}
theorem PagAt.other (h : PagAt w0 w G n g) (hg : w.grownBy w' (some x)) (hx : w.heap[x]? = some (.cells cs.toArray T (0, 0))) (hc : ∀ v ∈ cs, ∀ n, v ≠ .int .u8 n) (hT : T ≠ 119 ∧ T ≠ 121 ∧ T ≠ 4 ∧ T ≠ 5 ∧ T ≠ 192 ∧ T ≠ 197 ∧ T ≠ 199)
    (hD : T ≠ 136 ∧ T ≠ eDB.e ∧ T ≠ eDW.e ∧ T ≠ eDF.e) (hlo : w0.heap.size ≤ x) : PagAt w0 w' G n g := by
  have hb : Blk w x T cs := hx
  have hk := Keeps.of_grown hg
  have ht := hb.tag
  have o : ∀ U, T ≠ U → Off w (fun i => i = x) U := fun U hU => Off.one (by rw [ht]; exact fun e => hU (Option.some.inj e))
  obtain ⟨t1, t2, t3, t4, t5, t6, t7⟩ := hT
  obtain ⟨d1, d2, d3, d4⟩ := hD
  refine ⟨h.blk.offK hk (o _ t1), h.wl.offK hk ⟨o _ d1, o _ d2, o _ d3, o _ d4⟩ (o _ t5) (o _ t4) (fun i hi => by rw [hi]; exact hlo), ?_, h.rest.offK hk (o _ t3) (o _ t4) (o _ t2) (fun hs => ?_) (fun U hU hs => ?_)⟩
  · refine h.pool.offK hk (o _ t6) (o _ t7) (fun hs => ?_) (o _ t4)
    have := h.pool.tags.2.2
    rw [hs, ht] at this
    cases this
  · have := h.mapTag
    rw [hs, ht] at this
    cases this
  · have := h.txTag U hU
    rw [hs, ht] at this
    cases this
theorem PagAt.offOther {S : Nat → Prop} (h : PagAt w0 w G n g) (hk : Keeps w w' S) (hS : ∀ i, S i → tagOf w i = some T) (hT : T ≠ 119 ∧ T ≠ 121 ∧ T ≠ 4 ∧ T ≠ 5 ∧ T ≠ 192 ∧ T ≠ 197 ∧ T ≠ 199)
    (hD : T ≠ 136 ∧ T ≠ eDB.e ∧ T ≠ eDW.e ∧ T ≠ eDF.e) (hlo : ∀ i, S i → w0.heap.size ≤ i) : PagAt w0 w' G n g := by
  have o : ∀ U, T ≠ U → Off w S U := fun U hU i hi => by rw [hS i hi]; exact fun e => hU (Option.some.inj e)
  obtain ⟨t1, t2, t3, t4, t5, t6, t7⟩ := hT
  obtain ⟨d1, d2, d3, d4⟩ := hD
  have hno : ∀ i, tagOf w i = none → ¬ S i := fun i hi hs => by rw [hS i hs] at hi; cases hi
  exact ⟨h.blk.offK hk (o _ t1), h.wl.offK hk ⟨o _ d1, o _ d2, o _ d3, o _ d4⟩ (o _ t5) (o _ t4) hlo, h.pool.offK hk (o _ t6) (o _ t7) (hno _ h.pool.tags.2.2) (o _ t4), h.rest.offK hk (o _ t3) (o _ t4) (o _ t2) (hno _ h.mapTag) (fun U hU => hno _ (h.txTag U hU))⟩
theorem PagAt.did {v : Value} {r r' : Wire.RS} {e : Ending} (h : PagAt w0 w G n g) (hr : RD w x r) (hd : Did w x v r' e w') (hlo : w0.heap.size ≤ x) : PagAt w0 w' G n g := by
  obtain ⟨A, c, h1, -⟩ := hr
  refine h.other (cs := [.slice A r.l.length c, .int .i64 r.e]) hd.2.2 h1 (fun v hv m => ?_) (by decide) (by decide) hlo
  simp at hv
  rcases hv with rfl | rfl <;> simp
end
def GB.fresh (G : GB) (gl : Nat) : GB := { G with gl := gl, au := none, cu := 0, ar := none, cr := 0, F := fun _ => none, tx := none }
def Pag.PG.fresh (d : DS) (l : LS) (q : PS) (blocks pages : Nat) : Pag.PG := ⟨d, l, q, blocks, pages, ⟨[], []⟩, Pag.none_, none, false⟩
def RetJn (w0 w : World) (G : GB) (n : Nat) (q : PS) (blocks pages : Nat) (r : OR) (e : Ending) (w' : World) : Prop :=
  (r.e = 0 → ∃ gl A c ps, e = .returned (.tuple #[.slice A (List.length ps) c, .int .i64 0]) ∧ w.heap.size ≤ gl ∧ PagAt w0 w' (G.fresh gl) (n + 2) (Pag.PG.fresh r.d r.l q blocks pages) ∧ EOwn ePart w' w.heap.size A c ps ∧ PartsX G.k.own w' ps r.recs ∧ Keeps w w' (fun i => G.k.own i ∨ i = G.gp)) ∧
  (r.e ≠ 0 → e = .returned (.tuple #[.slice none 0 0, .int .i64 r.e]) ∧ DL w0 w' G.k r.d (n + 2) ∧ Keeps w w' (fun i => G.k.own i ∨ i = G.gp))
theorem Pg0.opened {w0 w : World} {G : GB} {n blocks pages gl : Nat} {d : DS} {l : LS} {q : PS} (h : Pg0 w0 w G n d q blocks pages) (hw : WL w0 w G.k gl d l n) : PagAt w0 (w.setCell ⟨G.gp, 1, none⟩ (.pointer (some ⟨gl, 0, none⟩))) (G.fresh gl) n (Pag.PG.fresh d l q blocks pages) := by
  have hg := grown_store w G.gp 1 (.pointer (some ⟨gl, 0, none⟩))
  have hk := Keeps.of_grown hg
  have ht : tagOf w G.gp = some 119 := h.blk.tag
  have o : ∀ T, T ≠ 119 → Off w (fun i => i = G.gp) T := fun T hT => Off.one (by rw [ht]; exact fun e => hT (Option.some.inj e).symm)
  refine ⟨h.blk.set 1 _, hw.offK hk ⟨o _ (by decide), o _ (by decide), o _ (by decide), o _ (by decide)⟩ (o _ (by decide)) (o _ (by decide)) (fun i hi => by rw [hi]; exact h.glo), ?_, ⟨EOwn.nil _ _, Nat.zero_le _, ⟨BRow.nil, fun h => absurd rfl h⟩, Nat.zero_le _, ?_, h.mlo, h.glo, h.m1, trivial, h.pages_, h.blocks_⟩⟩
  · refine (h.pool.set (Y := (G.fresh gl).xs) fun i hi => ?_).offK hk (o _ (by decide)) (o _ (by decide)) (fun hs => ?_) (o _ (by decide))
    · rcases hi with hi | ⟨T, a, hT, -⟩
      · exact .inl hi
      · cases hT
    · have := h.pool.tags.2.2
      rw [hs, ht] at this
      cases this
  · refine h.map.offK hk (fun hs => ?_) (o _ (by decide))
    have := h.map.map.tag
    rw [hs, ht] at this
    cases this
set_option maxRecDepth 20000 in
set_option maxHeartbeats 4000000 in
theorem pjn_any (w0 w : World) (G : GB) (n : Nat) (d : DS) (q : PS) (blocks pages : Nat) (h : Pg0 w0 w G n d q blocks pages) (hn : n + 2 < 1000000) (h3 : 3 ≤ blocks) (hin : 1 + blocks ≤ d.blocks.length) :
    Calls Tryz.prog 71 #[.pointer (some ⟨G.gp, 0, none⟩)] w (RetJn w0 w G n q blocks pages (d.openW 1 ((blocks - 2) * 512))) := by
  have hbd : Below w.heap.size w w.drew := (Below.refl _ _).drew
  have H0 := Lib.hid (h.below hbd)
  have hc := H0.out.cells
  have HO := Lib.hid (open_any w0 w.drew G.k d n H0.out.dl hn 1 blocks h3 h.blocks_ hin)
  have hcw := h.cells
  clear h hbd hin
  generalize d.openW 1 ((blocks - 2) * 512) = r at HO ⊢
  go_enter Tryz.func71, Tryz.ntmps71
  go_wp2_with fail
  refine wp_region_plan (.take 0 (.take 1 (.take 2 (.take 3 (.take 4 (.take 5 (.take 6 (.take 7 (.run 8 [] (.take 9 (.take 10 (.take 11 (.take 12 (.take 13 (.take 14 (.take 15 .fin)))))))))))))))) (by kernel_rfl) (by kernel_rfl) (by kernel_rfl) (by kernel_rfl) ?_
  repeat' (first | (refine hZ _ _ ?_; clear hZ) | (refine hZ _ ?_; clear hZ) | (refine hZ ?_; clear hZ) | rw [again_nil] | rw [walk_fin] | ((first | rw [walk_take] | rw [walk_run] | rw [again_cons]); intro Z hZ; simp only [sel, List.getElem?_toArray, List.getElem?_cons_zero, List.getElem?_cons_succ]; go_wp2_with (fail)))
  refine (show Calls _ _ #[_, .int .i64 1, _] _ _ from HO.out).mono ?_
  intro e w1 hop
  by_cases hz : r.e = 0
  · obtain ⟨gl, A, c, ps, rfl, hgl, hwl, hps, hpx, hk1⟩ := hop.1 hz
    have h1 := H0.out.disk hwl.dl hk1 (by omega)
    have hc := h1.cells
    have H1 := Lib.hid (And.intro h1 (And.intro hwl (And.intro hps (And.intro hpx hk1))))
    clear hop hwl hps hpx hk1 h1
    go_wp2_with fail
    repeat' (first | (refine hZ _ _ ?_; clear hZ) | (refine hZ _ ?_; clear hZ) | (refine hZ ?_; clear hZ) | rw [again_nil] | rw [walk_fin] | ((first | rw [walk_take] | rw [walk_run] | rw [again_cons]); intro Z hZ; simp only [sel, List.getElem?_toArray, List.getElem?_cons_zero, List.getElem?_cons_succ]; go_wp2_with (fail)))
    go_wp2_with fail
    go_ret2
    obtain ⟨h1, hwl, hps, hpx, hk1⟩ := H1.out
    have hg := grown_store w1 G.gp 1 (.pointer (some ⟨gl, 0, none⟩))
    have ht : tagOf w1 G.gp = some 119 := h1.blk.tag
    have o : ∀ T, T ≠ 119 → Off w1 (fun i => i = G.gp) T := fun T hT => Off.one (by rw [ht]; exact fun e => hT (Option.some.inj e).symm)
    have hkk : Keeps w w1 G.k.own := (Keeps.of_below (Below.refl _ _).drew).trans hk1
    refine ⟨fun _ => ⟨gl, A, c, ps, rfl, hgl, h1.opened hwl, ?_, ?_, ?_⟩, fun he => absurd hz he⟩
    · exact EOwn.offK hps (Keeps.of_grown hg) (o _ (by decide))
    · refine hpx.keepB hg.size fun i hi hs => ?_
      exact (Keeps.of_grown hg).block _ hi.lt (fun e => by have := hi.tag; rw [e, ht] at this; revert this; decide)
    · exact (hkk.mono fun i hi => .inl hi).trans ((Keeps.of_grown hg).mono fun i hi => .inr hi)
  · obtain ⟨rfl, hdl, hk1⟩ := hop.2 hz
    have h1 := H0.out.disk hdl hk1 (by omega)
    have hc := h1.cells
    have H1 := Lib.hid (And.intro h1 (And.intro hdl hk1))
    clear hop hdl hk1 h1
    go_wp2_with fail
    repeat' (first | (refine hZ _ _ ?_; clear hZ) | (refine hZ _ ?_; clear hZ) | (refine hZ ?_; clear hZ) | rw [again_nil] | rw [walk_fin] | ((first | rw [walk_take] | rw [walk_run] | rw [again_cons]); intro Z hZ; simp only [sel, List.getElem?_toArray, List.getElem?_cons_zero, List.getElem?_cons_succ]; go_wp2_with (fail)))
    go_wp2_with fail
    go_ret2
    obtain ⟨h1, hdl, hk1⟩ := H1.out
    have hg := grown_store w1 G.gp 1 (.pointer none)
    have ht : tagOf w1 G.gp = some 119 := h1.blk.tag
    have hkk : Keeps w w1 G.k.own := (Keeps.of_below (Below.refl _ _).drew).trans hk1
    have o : ∀ T, T ≠ 119 → Off w1 (fun i => i = G.gp) T := fun T hT => Off.one (by rw [ht]; exact fun e => hT (Option.some.inj e).symm)
    refine ⟨fun he => absurd he hz, fun _ => ⟨rfl, ?_, (hkk.mono fun i hi => .inl hi).trans ((Keeps.of_grown hg).mono fun i hi => .inr hi)⟩⟩
    exact hdl.offK (Keeps.of_grown hg) ⟨o _ (by decide), o _ (by decide), o _ (by decide), o _ (by decide)⟩ (fun i hi => by rw [hi]; exact h1.glo)
end Go.Proofs.YtcfoihihinijlaaGreat
end

section
namespace Go.Proofs.YtcfoihihinijlaaGreat
set_option linter.unusedSimpArgs false
set_option linter.unusedVariables false
open Go.RowKit
section
variable {l : List Oper} {o : Oper} {a : Act} {w : World} {T : Value → World → Prop} {Q : Exit → Act → World → Prop}
end
end Go.Proofs.YtcfoihihinijlaaGreat
end

section
namespace Go.Proofs.YtcfoihihinijlaaGreat
set_option linter.unusedSimpArgs false
set_option linter.unusedVariables false
open Go.RowKit
theorem run_str_bytes (w : World) (l : List UInt8) : ∃ c W, (convert 9 56 (txt l)).run Tryz.prog w = .ok (.slice (some ⟨w.heap.size, 0, none⟩) l.length c) W ∧ BRow W (some ⟨w.heap.size, 0, none⟩) l ∧ Below w.heap.size w W ∧ w.heap.size < W.heap.size ∧ ∀ j, j < l.length → W.frozen? ⟨w.heap.size, j, none⟩ = false := by
  have h := run_bytes_of_string (P := Tryz.prog) w 9 56 5 ⟨l.toArray⟩ Tryz.underlying9 Tryz.underlying56 Tryz.underlying5
  have hs : (ByteArray.mk l.toArray).size = l.length := by simp [ByteArray.size]
  rw [hs] at h
  generalize hC : grownCap w l.length 0 5 = cap at h
  clear hC
  have hB : bytesRow ⟨l.toArray⟩ cap = (l.map bv ++ List.replicate (cap - l.length) (Value.int .u8 0)).toArray := by
    unfold bytesRow
    rw [hs]
    apply Array.ext'
    simp [bv]
  refine ⟨cap, _, h, ?_, (Below.refl _ w).drewR.alloc (Nat.le_refl _) _, by simp [World.alloc], fun j hj => ?_⟩
  · intro hl
    refine ⟨w.heap.size, 0, rfl, by simp [World.alloc], fun j hj => ?_⟩
    have hjl : j < l.length := by simpa using hj
    unfold World.cell? World.alloc
    have hd : w.drew.heap = w.heap := rfl
    simp [hB, hd]
    rw [List.getElem?_append_left (by simpa using hjl)]
    simp [hjl]
  · unfold World.frozen? World.alloc
    have hd : w.drew.heap = w.heap := rfl
    simp [hB, hd]
    omega
theorem BRow.set {w : World} {g : Nat} {l : List UInt8} (h : BRow w (some ⟨g, 0, none⟩) l) {j : Nat} (hj : j < l.length) (x : UInt8) : BRow (w.setCell ⟨g, j, none⟩ (bv x)) (some ⟨g, 0, none⟩) (l.set j x) := by
  intro hl
  obtain ⟨b, o, e, hb, hc⟩ := h (by simp; omega)
  simp only [Option.some.injEq, Addr.mk.injEq, and_true] at e
  obtain ⟨rfl, rfl⟩ := e
  refine ⟨g, 0, rfl, by simpa using hb, fun i hi => ?_⟩
  have hil : i < l.length := by simpa using hi
  have h0 := hc i (by simpa using hil)
  by_cases hij : i = j
  · subst hij
    rw [Nat.zero_add] at h0 ⊢
    rw [World.cell?_setCell_same _ _ _ h0]
    simp
  · rw [World.cell?_setCell_other w _ _ _ (by intro e; simp at e <;> omega), h0]
    simp [List.getElem_set, Ne.symm hij]
end Go.Proofs.YtcfoihihinijlaaGreat
end

section
namespace Go.Proofs.YtcfoihihinijlaaGreat
set_option linter.unusedSimpArgs false
set_option linter.unusedVariables false
open Go.RowKit
theorem run_str_bytes2 (w : World) (l : List UInt8) : ∃ c W, (convert 9 56 (txt l)).run Tryz.prog w = .ok (.slice (some ⟨w.heap.size, 0, none⟩) l.length c) W ∧ BRow W (some ⟨w.heap.size, 0, none⟩) l ∧ isU8 W w.heap.size ∧ Below w.heap.size w W ∧ l.length ≤ c := by
  obtain ⟨c', W', hrun', hrow', hb', hlt', -⟩ := run_str_bytes w l
  have h := run_bytes_of_string (P := Tryz.prog) w 9 56 5 ⟨l.toArray⟩ Tryz.underlying9 Tryz.underlying56 Tryz.underlying5
  have hs : (ByteArray.mk l.toArray).size = l.length := by simp [ByteArray.size]
  rw [hs] at h
  have h' : (convert 9 56 (txt l)).run Tryz.prog w = _ := h
  rw [hrun'] at h'
  have e1 := (Result.ok.inj h').1
  have e2 := (Result.ok.inj h').2
  simp only [Value.slice.injEq, true_and] at e1
  refine ⟨c', W', hrun', hrow', ?_, hb', ?_⟩
  · rw [e2]
    exact ⟨_, _, heap_alloc_new w.drew _⟩
  · rw [e1]
    exact grownCap_ge w l.length 0 5
end Go.Proofs.YtcfoihihinijlaaGreat
end

section
namespace Go.Proofs.YtcfoihihinijlaaGreat
set_option linter.unusedSimpArgs false
set_option linter.unusedVariables false
open Go.RowKit Go.Maps
def flagsTo (b : List UInt8) (n i : Nat) : List Bool := (List.range n).map fun k => if k < i then (b.getD (k / 8) 0).toNat / 2 ^ (k % 8) % 2 == 1 else false
theorem flagsTo_length (b : List UInt8) (n i : Nat) : (flagsTo b n i).length = n := by simp [flagsTo]
theorem flagsTo_zero (b : List UInt8) (n : Nat) : flagsTo b n 0 = List.replicate n false := by
  refine List.ext_getElem (by simp [flagsTo]) fun k h1 h2 => ?_
  simp [flagsTo]
theorem flagsTo_all (b : List UInt8) (pages : Nat) : flagsTo b (pages + 1) (pages + 1) = Pag.usedOf b pages := by
  refine List.ext_getElem (by simp [flagsTo, Pag.usedOf]) fun k h1 h2 => ?_
  simp [flagsTo] at h1
  simp [flagsTo, Pag.usedOf, h1]
theorem flagsTo_step (b : List UInt8) (n i : Nat) (hi : i < n) : flagsTo b n (i + 1) = (flagsTo b n i).set i ((b.getD (i / 8) 0).toNat / 2 ^ (i % 8) % 2 == 1) := by
  refine List.ext_getElem (by simp [flagsTo]) fun k h1 h2 => ?_
  rw [List.getElem_set]
  simp only [flagsTo, List.getElem_map, List.getElem_range]
  by_cases e : i = k
  · subst e
    simp
  · rw [if_neg e]
    by_cases h : k < i
    · rw [if_pos h, if_pos (by omega)]
    · rw [if_neg h, if_neg (by omega)]
theorem bit_all : ∀ n : Nat, n < 256 → ∀ j : Nat, j < 8 → (bits BinOp.and IntKind.u8 ((n : Int) / 2 ^ j) 1 == 1) = (n / 2 ^ j % 2 == 1) := by decide +kernel
theorem read_pages (g : Pag.PG) (k : Nat) : (g.read k).1.pages = g.pages := by
  unfold Pag.PG.read
  split
  · rfl
  · split
    · rfl
    · split <;> rfl
theorem RD.offK {w w' : World} {S : Nat → Prop} {g : Nat} {r : Wire.RS} (h : RD w g r) (hk : Keeps w w' S) (h1 : Off w S 246) (h2 : Off w S 5) : RD w' g r := by
  obtain ⟨A, c, hg, hr, a1, a2⟩ := h
  have ht : tagOf w g = some 246 := by unfold tagOf; rw [hg]
  refine ⟨A, c, (hk.block _ (Array.getElem?_eq_some_iff.1 hg).1 (fun hs => h1 _ hs ht)).trans hg, hr.keepB hk.size fun a ha hl hlt => hk.block _ hlt fun hs => ?_, a1, a2⟩
  obtain ⟨cur, fr, hc⟩ := hr.2 hl a ha
  exact h2 _ hs (isU8.tag ⟨cur, fr, hc⟩)
theorem takeText_le (r : Wire.RS) (m : Nat) : (Wire.takeText r (m : Int)).2.length ≤ m := by
  unfold Wire.takeText
  split
  · exact Nat.zero_le _
  · split
    · exact Nat.zero_le _
    · next h1 h2 =>
      rw [List.length_take]
      refine Nat.le_trans (Nat.min_le_left _ _) ?_
      unfold Wire.count at h1 ⊢
      split
      · exact Nat.zero_le _
      · next h3 =>
        rw [if_neg h3] at h1
        split
        · exact Nat.zero_le _
        · next h4 => omega
theorem read_tx (g : Pag.PG) (k : Nat) (h : g.tx = none) : (g.read k).1.tx = none := by
  unfold Pag.PG.read
  split
  · exact h
  · split
    · exact h
    · split
      · rfl
      · exact h
def Pag.PG.load (g : Pag.PG) : Pag.PG × Int :=
  if (g.read 0).2.2 ≠ 0 then ((g.read 0).1, (g.read 0).2.2)
  else ({ (g.read 0).1 with sure := (Pag.decode (g.read 0).2.1 g.pages).1 }, (Pag.decode (g.read 0).2.1 g.pages).2)
set_option maxRecDepth 20000 in
set_option maxHeartbeats 4000000 in
theorem pload_any (w0 w : World) (G : GB) (n : Nat) (g : Pag.PG) (h : PagAt w0 w G n g) (hn : n + 2 < 1000000) (hl : (g.read 0).2.2 = 0 → (g.read 0).2.1.length = 512) (htx : g.tx = none) :
    Calls Tryz.prog 73 #[.pointer (some ⟨G.gp, 0, none⟩)] w (RetPg w0 w G (n + 2) g.load.1 g.load.2) := by
  have HRD := Lib.hid (pread_any w0 w G n g h hn 0 (Nat.zero_le _))
  have HPG := Lib.hid h.rest.pages
  obtain ⟨r, hr⟩ : ∃ r, g.read 0 = r := ⟨_, rfl⟩
  have HLD : Hid (g.load = if r.2.2 ≠ 0 then (r.1, r.2.2) else ({ r.1 with sure := (Pag.decode r.2.1 g.pages).1 }, (Pag.decode r.2.1 g.pages).2)) := by show _ = _; unfold Pag.PG.load; rw [hr]
  rw [hr] at HRD hl
  have HL := Lib.hid hl
  clear h hl
  have HPS : Hid (r.1.pages = g.pages) := by show _ = _; rw [← hr]; exact read_pages g 0
  have HTX : Hid (r.1.tx = none) := by show _ = _; rw [← hr]; exact read_tx g 0 htx
  clear hr
  go_enter Tryz.func73, Tryz.ntmps73
  go_wp2_with fail
  refine (show Calls _ _ #[_, .int .i64 0] _ _ from HRD.out).mono ?_
  rintro e w1 ⟨G1, A1, c1, rfl, e1, e2, e3, e4, e5, e6, e7, e8⟩
  have H1 := Lib.hid (And.intro e1 (And.intro e2 (And.intro e3 (And.intro e4 (And.intro e5 (And.intro e6 (And.intro e7 e8)))))))
  by_cases hz : r.2.2 = 0
  · have h512 := HL.out hz
    obtain ⟨bb, oo, rfl, hbb, hcell⟩ := e1 (by rw [List.length_map, h512]; decide)
    have HCL := Lib.hid hcell
    have hc := e6.cells
    have hpgs := HPS.out
    rw [hz, h512]
    rw [hpgs, e4] at hc
    have hpg := HPG.out
    clear e1 e2 e3 e4 e5 e6 e7 e8 HRD HL hcell hpgs
    go_upto_region 5 with (refine wpList_make_elems eBl false rfl (B := w1.heap.size) rfl _ _ rfl _ _ _ _ (g.pages + 1) rfl rfl (by omega) (by omega) (by omega) (Nat.le_refl _) ?_; intro W2 hu2 hb2)
    generalize hW3 : World.alloc W2 (.cells _ _) = W3
    obtain ⟨ba3, hz3, hB3⟩ := fresh1 hW3
    clear hW3
    have HM : Hid (EOwn eBl W3 w1.heap.size (some ⟨w1.heap.size, 0, none⟩) (g.pages + 1) (flagsTo r.2.1 (g.pages + 1) 0) ∧ Blk W3 W2.heap.size 115 [.slice (some ⟨w1.heap.size, 0, none⟩) (g.pages + 1) (g.pages + 1), .slice none 0 0] ∧ Below w1.heap.size w1 W3) := by
      refine ⟨?_, ba3, hb2.then hB3⟩
      rw [flagsTo_zero]
      exact hu2.below hB3
    have hne : w1.heap.size ≠ W2.heap.size := by have := (hu2.block _ rfl).2; simp only at this; omega
    have HS5 := Lib.hid hb2.size
    obtain ⟨gB, hgB⟩ : ∃ gB, w1.heap.size = gB := ⟨_, rfl⟩
    have HGB := Lib.hid hgB
    have hx := ba3.c2
    clear hu2 hb2 ba3 hz3 hB3
    rw [hgB] at HM hne hx ⊢
    generalize W2.heap.size = g5 at *
    clear hgB
    go_wp2_with fail
    go_loopw [26] (fun iv wr => ∃ i : Nat, i ≤ g.pages + 1 ∧ iv = .int .i64 (i : Int) ∧ Hid (EOwn eBl wr gB (some ⟨gB, 0, none⟩) (g.pages + 1) (flagsTo r.2.1 (g.pages + 1) i) ∧ Blk wr g5 115 [.slice (some ⟨gB, 0, none⟩) (g.pages + 1) (g.pages + 1), .slice none 0 0] ∧ Below gB w1 wr)) (fun iv _ => g.pages + 1 - (intOf iv).toNat)
    case atStart => exact ⟨0, Nat.zero_le _, by go_num, HM.out⟩
    case round =>
      obtain ⟨i, hi, rfl, HJ⟩ := hrel
      by_cases hlt : i < g.pages + 1
      · have hii : (i : Int) < (g.pages : Int) + 1 := by omega
        have hx := HJ.out.2.1.c2
        have h8 : i / 8 < r.2.1.length := by rw [h512]; omega
        have hd8 : (i : Int) / 8 < 512 := by omega
        have hB2 := HJ.out.2.2
        rw [← HGB.out] at hB2
        have hq := (hB2.cell (p := ⟨bb, oo + i / 8, none⟩) hbb).trans (HCL.out (i / 8) (by rw [List.length_map]; exact h8))
        rw [List.getElem_map] at hq
        have HST := Lib.hid (flagsTo_step r.2.1 (g.pages + 1) i hlt)
        obtain ⟨x, hxx⟩ : ∃ x, r.2.1[i / 8] = x := ⟨_, rfl⟩
        rw [hxx] at hq
        have HX : Hid (r.2.1.getD (i / 8) 0 = x) := by show _ = _; rw [List.getD_eq_getElem?_getD, List.getElem?_eq_getElem h8, hxx]; rfl
        unfold bv at hq
        obtain ⟨ab, hab, hcb, hfb, -, -⟩ := bl_own HJ.out.1 (i := i) (by rw [flagsTo_length]; exact hlt)
        cases hab
        clear h8 hxx hB2
        go_upto_region 8 with fail
        refine wp_region_plan (.take 0 (.take 1 (.take 2 (.take 3 (.take 4 (.take 5 (.take 6 (.take 7 (.take 8 (.take 9 (.take 10 (.take 11 (.take 12 (.take 13 (.run 14 [] .fin))))))))))))))) (by kernel_rfl) (by kernel_rfl) (by kernel_rfl) (by kernel_rfl) ?_
        repeat' (first | (refine hZ _ _ ?_; clear hZ) | (refine hZ _ ?_; clear hZ) | (refine hZ ?_; clear hZ) | rw [again_nil] | rw [walk_fin] | ((first | rw [walk_take] | rw [walk_run] | rw [again_cons]); intro Z hZ; simp only [sel, List.getElem?_toArray, List.getElem?_cons_zero, List.getElem?_cons_succ]; go_wp2_with (fail)))
        have hbit := bit_all x.toNat x.toNat_lt (i % 8) (Nat.mod_lt _ (by decide))
        rw [hbit]
        have HW : Hid (EOwn eBl (wr.setCell ⟨gB, i, none⟩ (.bool (x.toNat / 2 ^ (i % 8) % 2 == 1))).drew gB (some ⟨gB, 0, none⟩) (g.pages + 1) (flagsTo r.2.1 (g.pages + 1) (i + 1)) ∧ Blk (wr.setCell ⟨gB, i, none⟩ (.bool (x.toNat / 2 ^ (i % 8) % 2 == 1))).drew g5 115 [.slice (some ⟨gB, 0, none⟩) (g.pages + 1) (g.pages + 1), .slice none 0 0] ∧ Below gB w1 (wr.setCell ⟨gB, i, none⟩ (.bool (x.toNat / 2 ^ (i % 8) % 2 == 1))).drew) := by
          refine ⟨?_, HJ.out.2.1.other ⟨gB, i, none⟩ (fun e => hne e.symm) _, (HJ.out.2.2.setCell (p := ⟨gB, i, none⟩) (Nat.le_refl _) _).drew⟩
          rw [HST.out, HX.out]
          have := HJ.out.1.store (j := i) (k := 0) (by rw [flagsTo_length]; exact hlt) (by decide) (x.toNat / 2 ^ (i % 8) % 2 == 1) (.bool (x.toNat / 2 ^ (i % 8) % 2 == 1)) rfl
          simp only [eBl, Nat.mul_one, Nat.add_zero] at this
          exact this
        go_wp2_with fail
        go_roundw
        case rel => exact ⟨i + 1, by omega, by go_num, HW.out⟩
        case measure => simp [intOf]; omega
      · have hii : ¬ (i : Int) < (g.pages : Int) + 1 := by omega
        obtain rfl : i = g.pages + 1 := by omega
        have hB2 := HJ.out.2.2
        rw [← HGB.out] at hB2
        have h512c : 512 ≤ c1 := by rw [← h512]; exact H1.out.2.1
        have hrw : BRow wr (some ⟨bb, oo + 256, none⟩) (r.2.1.drop 256) := by
          intro hl
          refine ⟨bb, oo + 256, rfl, Nat.lt_of_lt_of_le hbb hB2.size, fun j hj => ?_⟩
          rw [List.length_map, List.length_drop] at hj
          have := (hB2.cell (p := ⟨bb, oo + (256 + j), none⟩) hbb).trans (HCL.out (256 + j) (by rw [List.length_map]; omega))
          rw [show oo + 256 + j = oo + (256 + j) from by omega, this]
          simp
        have HRR := Lib.hid (wread_any wr _ (c1 - 256) _ hrw (by rw [List.length_drop]; omega))
        rw [show (r.2.1.drop 256).length = 256 from by rw [List.length_drop, h512]] at HRR
        clear hrw hB2
        go_wp2_with fail
        refine HRR.out.mono ?_
        rintro e w5 ⟨gr, rfl, hro, hb5⟩
        have hgr := hro.ge
        have HT := Lib.hid (rtext_any w5 gr ⟨r.2.1.drop 256, 0⟩ 64 (by decide) hro.rd)
        have H5 := Lib.hid (And.intro hro.rd (And.intro hb5 hgr))
        clear hro hb5 hgr
        go_wp2_with fail
        refine HT.out.mono ?_
        rintro e w6 ⟨rfl, hrd6, hg6⟩
        obtain ⟨hrd5, hb5, hgr⟩ := H5.out
        obtain ⟨j1, j2, j3⟩ := HJ.out
        have hs5 := HS5.out
        have hgb := HGB.out
        have hltB : gB < wr.heap.size := (j1.block _ rfl).2
        have hlt5 := j2.lt
        have k1 := (j1.below hb5).kept hg6 (.inr (by simp only [Option.map_some, ne_eq, Option.some.injEq]; omega))
        have k2 := (j2.below hb5).grown hg6 (by simp only [ne_eq, Option.some.injEq]; omega)
        have k3 : Below gB w1 w6 := (j3.trans (hb5.mono (by omega))).grown hg6 (Nat.le_trans (by omega) hb5.size) (fun k hk => by cases hk; omega)
        obtain ⟨D, hD⟩ : ∃ D, Wire.takeText ⟨r.2.1.drop 256, 0⟩ 64 = D := ⟨_, rfl⟩
        have HDC : Hid (Pag.decode r.2.1 g.pages = (⟨Pag.usedOf r.2.1 g.pages, D.2⟩, D.1.e)) := by show _ = _; unfold Pag.decode; rw [hD]
        have HTL : Hid (D.2.length ≤ 64) := by show _ ≤ _; rw [← hD]; exact takeText_le _ _
        rw [hD] at hrd6 ⊢
        rw [flagsTo_all] at k1
        obtain ⟨c7, w7, hrun, hrow7, hu7, hb7, hc7⟩ := run_str_bytes2 w6 D.2
        have l1 := k1.below hb7
        have l2 := k2.below hb7
        have l3 : Below gB w1 w7 := k3.trans (hb7.mono k3.size |>.mono (by rw [← hgb]; exact Nat.le_refl _))
        have hx7 := l2.c2
        have H7 := Lib.hid (And.intro l1 (And.intro l2 (And.intro l3 (And.intro (hrd6.below hb7) (And.intro hrow7 (And.intro hu7 (And.intro hc7 (k3.size))))))))
        clear j1 j2 j3 k1 k2 l1 l2 hD hrd6 hg6 hrd5 hb5 HT HRR HM
        go_upto_region 12 with fail
        obtain ⟨e1, e2, e3, e4, e5, e6, e7, e8⟩ := H1.out
        obtain ⟨l1, l2, l3, l4, l5, l6, l7, l8⟩ := H7.out
        have hB17 : Below w1.heap.size w1 w7 := by rw [hgb]; exact l3
        have hp7 := e6.below hB17
        have hw0 : w0.heap.size ≤ w1.heap.size := e6.wl.dl.bel.size
        have hg8 := grown_store w7 g5 1 (.slice (some ⟨w6.heap.size, 0, none⟩) D.2.length c7)
        have hp8 := hp7.other (cs := [.slice (some ⟨gB, 0, none⟩) (g.pages + 1) (g.pages + 1), .slice none 0 0]) hg8 l2 (fun v hv m => by simp at hv; rcases hv with rfl | rfl <;> simp) (by decide) (by decide) (by omega)
        have o8 : ∀ U, U ≠ 115 → Off w7 (fun i => i = g5) U := fun U hU => Off.one (by rw [l2.tag]; exact fun e => hU (Option.some.inj e).symm)
        have n1 := EOwn.offK l1 (Keeps.of_grown hg8) (o8 _ (by decide))
        have n2 := l2.set1 (u := .slice (some ⟨w6.heap.size, 0, none⟩) D.2.length c7)
        have n4 := l4.offK (Keeps.of_grown hg8) (o8 _ (by decide)) (o8 _ (by decide))
        have n5 : BRowU (w7.setCell ⟨g5, 1, none⟩ (.slice (some ⟨w6.heap.size, 0, none⟩) D.2.length c7)) (some ⟨w6.heap.size, 0, none⟩) D.2 := BRowU.offK ⟨l5, fun _ a ha => by cases ha; exact l6⟩ (Keeps.of_grown hg8) (o8 _ (by decide))
        have HWG : Hid (w.heap.size ≤ gB) := by
          have h1 := e8.size
          show _ ≤ _
          omega
        have hK8 : Keeps w (w7.setCell ⟨g5, 1, none⟩ (.slice (some ⟨w6.heap.size, 0, none⟩) D.2.length c7)) G.own := (e8.then hB17).set ⟨g5, 1, none⟩ (.inr (Nat.le_trans e8.size hs5)) _
        have hc8 := hp8.cells
        have hf8 := hp8.free
        rw [e4] at hc8 hf8
        have hx8 := n2.c2
        have H8 := Lib.hid (And.intro hp8 (And.intro n1 (And.intro n4 (And.intro n5 (And.intro hK8 (And.intro e4 (And.intro e5 (And.intro e7 hw0))))))))
        generalize w7.setCell ⟨g5, 1, none⟩ (.slice (some ⟨w6.heap.size, 0, none⟩) D.2.length c7) = w8 at *
        generalize w6.heap.size = g6 at *
        clear e1 e2 e3 e4 e5 e6 e7 e8 l1 l2 l4 l5 l6 l7 l8 hp7 hp8 o8 n1 n2 n4 n5 hK8 hg8 hrun hrow7 hu7 hb7 hc7 hx7 hc
        go_upto_region 13 with fail
        obtain ⟨hp8, n1, n4, n5, hK8, e4, e5, e7, -⟩ := H8.out
        have hg9 : w8.grownBy ((w8.setCell ⟨G.gp, 5, none⟩ (.slice (some ⟨gB, 0, none⟩) (g.pages + 1) (g.pages + 1))).setCell ⟨G.gp, 6, none⟩ (.slice (some ⟨g6, 0, none⟩) D.2.length c7)) (some G.gp) := (grown_store _ _ _ _).set_ ⟨G.gp, 6, none⟩ rfl _
        have hul : (Pag.usedOf r.2.1 g.pages).length = g.pages + 1 := by simp [Pag.usedOf]
        have htg : tagOf w8 G.gp = some 119 := by rw [← e4]; exact hp8.blk.tag
        have n9 := n4.offK (Keeps.of_grown hg9) (Off.one (by rw [htg]; decide)) (Off.one (by rw [htg]; decide))
        have hx8r := hp8.rest
        have H9 : Hid (PagAt w0 ((w8.setCell ⟨G.gp, 5, none⟩ (.slice (some ⟨gB, 0, none⟩) (g.pages + 1) (g.pages + 1))).setCell ⟨G.gp, 6, none⟩ (.slice (some ⟨g6, 0, none⟩) D.2.length c7)) { G1 with au := some ⟨gB, 0, none⟩, cu := g.pages + 1, ar := some ⟨g6, 0, none⟩, cr := c7 } (n + 2) { r.1 with sure := ⟨Pag.usedOf r.2.1 g.pages, D.2⟩ }) := by
          refine hp8.pg (G' := { G1 with au := some ⟨gB, 0, none⟩, cu := g.pages + 1, ar := some ⟨g6, 0, none⟩, cr := c7 }) ?_ (by rw [e4]; exact hg9) ⟨rfl, rfl, rfl, rfl⟩ ⟨rfl, rfl, rfl⟩ hp8.pool ?_
          · have := (hp8.blk.set 5 (.slice (some ⟨gB, 0, none⟩) (g.pages + 1) (g.pages + 1))).set 6 (.slice (some ⟨g6, 0, none⟩) D.2.length c7)
            rw [e4] at this ⊢
            unfold pgCells at this ⊢
            simp only [hul]
            exact this
          · refine ⟨n1.lowB (by omega), by rw [hul]; omega, n5, HTL.out, hx8r.map, hx8r.mlo, hx8r.glo, hx8r.m1, ?_, hx8r.pages, hx8r.blocks⟩
            rcases hp8.split with ⟨q1, q2⟩ | ⟨T, t, q1, q2, -⟩
            · show match G1.tx, r.1.tx with | some T, some t => _ | none, none => True | _, _ => False
              rw [q1, q2]
              trivial
            · rw [HTX.out] at q2
              cases q2
        have H9b := Lib.hid (And.intro n9 (hK8.trans ((Keeps.of_grown hg9).mono fun i hi => .inr (.inr (.inl hi)))))
        clear hp8 n1 n4 n5 hK8 n9 hx8r hg9 htg
        generalize ((w8.setCell ⟨G.gp, 5, none⟩ (.slice (some ⟨gB, 0, none⟩) (g.pages + 1) (g.pages + 1))).setCell ⟨G.gp, 6, none⟩ (.slice (some ⟨g6, 0, none⟩) D.2.length c7)) = w9 at *
        have HER := Lib.hid (rerr_any w9 gr D.1 H9b.out.1)
        go_wp2_with fail
        refine HER.out.mono ?_
        rintro e w10 ⟨rfl, rfl⟩
        go_wp2_with fail
        go_ret
        have hld : g.load = ({ r.1 with sure := ⟨Pag.usedOf r.2.1 g.pages, D.2⟩ }, D.1.e) := by rw [HLD.out, if_neg (by rw [hz]; simp), HDC.out]
        rw [hld]
        refine ⟨{ G1 with au := some ⟨gB, 0, none⟩, cu := g.pages + 1, ar := some ⟨g6, 0, none⟩, cr := c7 }, rfl, e4, e5, H9.out, fun i hi => ?_, H9b.out.2⟩
        rcases hi with hi | hi | hi | hi | hi | ⟨a, ha, hi⟩
        · exact e7 i (.inl hi)
        · exact e7 i (.inr (.inl hi))
        · exact e7 i (.inr (.inr (.inl hi)))
        · exact e7 i (.inr (.inr (.inr (.inl hi))))
        · exact e7 i (.inr (.inr (.inr (.inr (.inl hi)))))
        · cases ha
          exact .inr (hi ▸ HWG.out)
  · have hz2 := code_ne hz
    have HLE : Hid (g.load = (r.1, r.2.2)) := by show _ = _; rw [HLD.out, if_pos hz]
    clear e1 e2 e3 e4 e5 e6 e7 e8 HRD HL
    go_wp2_with fail
    go_ret
    obtain ⟨e1, e2, e3, e4, e5, e6, e7, e8⟩ := H1.out
    rw [HLE.out]
    exact ⟨G1, rfl, e4, e5, e6, e7, e8⟩
end Go.Proofs.YtcfoihihinijlaaGreat
end

section
namespace Go.Proofs.YtcfoihihinijlaaGreat
set_option linter.unusedSimpArgs false
set_option linter.unusedVariables false
open Go.RowKit Go.Maps
section
variable {w0 w w' : World} {G : GB} {n : Nat} {g : Pag.PG} {F' : Nat → Option Bp} {m' : Pag.Pgs}
theorem PagAt.overMap (h : PagAt w0 w G n g) (hm : PMap w' G.gm (g.pages + 1) F' m') (hg : w.grownBy w' (some G.gm)) : PagAt w0 w' { G with F := F' } n { g with over := m' } := by
  have htag := h.mapTag
  have hk := Keeps.of_grown hg
  have o : ∀ U, Off w (fun i => i = G.gm) U := fun U => Off.one (by rw [htag]; simp)
  have hr := h.rest
  refine ⟨h.blk.offK hk (o _), h.wl.offK hk ⟨o _, o _, o _, o _⟩ (o _) (o _) (fun i hi => by rw [hi]; exact hr.mlo), ?_, ⟨hr.used.offK hk (o _), hr.ul, hr.root.offK hk (o _), hr.rl, hm, hr.mlo, hr.glo, hr.m1, ?_, hr.pages, hr.blocks⟩⟩
  · exact h.pool.offK hk (o _) (o _) (fun hs => hr.m1 hs) (o _)
  · show match G.tx, g.tx with
      | some T, some t => TxAt w' w0.heap.size (g.pages + 1) T t ∧ T.gm ≠ G.gm ∧ T.gm ≠ G.b.gm ∧ ∀ a a', T.au = some a → G.au = some a' → a.block ≠ a'.block
      | none, none => True
      | _, _ => False
    rcases h.split with ⟨q1, q2⟩ | ⟨T, t, q1, q2, ht, m1, m2, m3⟩
    · rw [q1, q2]; trivial
    · rw [q1, q2]
      exact ⟨ht.offK hk (o _) (o _) (o _) m1, m1, m2, m3⟩
end
section
variable {w : World} {ops : Array Oper} {rest : List Oper} {o : Oper} {a : Act} {Q : Exit → Act → World → Prop}
theorem wpList_guardP {d : Option Tmp} {op : Op} {ty : TypeId} {pos : String} {after : Array Edge} {g : Option (Nat × Bool)} (hw : Region.wanted ⟨d, op, ty, pos, after, g⟩ (yielded ops a.tmps) = true)
    (h : wpList Tryz.prog ops Q (⟨d, op, ty, pos, after, none⟩ :: rest) a w) : wpList Tryz.prog ops Q (⟨d, op, ty, pos, after, g⟩ :: rest) a w := by
  unfold wpList at h ⊢
  rw [if_pos hw]
  rw [if_pos (by rfl)] at h
  exact h
theorem wpList_len_txt (hgd : o.guard = none) (x : Operand) (hop : o.op = .call { callee := .builtin .len, args := #[x], argTypes := #[9] }) (l : List UInt8) (hx : a.eval x = txt l)
    (h : wpList Tryz.prog ops Q rest (a.put o.dst (.int .i64 (l.length : Nat))) w) : wpList Tryz.prog ops Q (o :: rest) a w := by
  refine wpList_plain hgd fun K' hK' => ?_
  unfold Oper.wp
  have hs : (ByteArray.mk l.toArray).size = l.length := by simp [ByteArray.size]
  simp [execOp, hop, resolve, invoke, builtin, hx, Builtin.len_, Builtin.lenOf, txt, hs, Result.andThen]
  exact hK' _ _ h
end
theorem Keeps.did {w wr w' : World} {S : Nat → Prop} {gr : Nat} {v : Value} {r' : Wire.RS} {e : Ending} (h : Keeps w wr S) (hd : Did wr gr v r' e w') (hg : w.heap.size ≤ gr) : Keeps w w' S := by
  obtain ⟨-, -, hx⟩ := hd
  exact ⟨hx.os.trans h.os, hx.tape.trans h.tape, hx.output.trans h.output, Nat.le_trans h.size hx.size, fun i hi hs => (hx.block i (Nat.lt_of_lt_of_le hi h.size) (by simp only [ne_eq, Option.some.injEq]; omega)).trans (h.block i hi hs)⟩
theorem count_le (r : Wire.RS) (m : Nat) : (Wire.count r (m : Int)).2 ≤ m := by
  unfold Wire.count
  split
  · exact Nat.zero_le _
  · split
    · exact Nat.zero_le _
    · omega
theorem redoF_step (pages k : Nat) (r : Wire.RS) (o : Pag.Pgs) : Pag.redoF pages (k + 1) r o =
    if (Wire.takeText (Wire.count r pages).1 512).1.e ≠ 0 ∨ (Wire.takeText (Wire.count r pages).1 512).2.length ≠ 512 then (o, (Wire.takeText (Wire.count r pages).1 512).1, 7)
    else Pag.redoF pages k (Wire.takeText (Wire.count r pages).1 512).1 (Pag.put o (Wire.count r pages).2 (Wire.takeText (Wire.count r pages).1 512).2) := rfl
set_option maxRecDepth 20000 in
set_option maxHeartbeats 4000000 in
theorem predo_any (w0 w : World) (G : GB) (n : Nat) (g : Pag.PG) (h : PagAt w0 w G n g) (A : Option Addr) (c : Nat) (l : List UInt8) (hr : BRow w A l) (hl : l.length ≤ 1000000) :
    Calls Tryz.prog 72 #[.pointer (some ⟨G.gp, 0, none⟩), .slice A l.length c] w (RetPg w0 w G n { g with over := (Pag.redo g.pages l g.over).1 } (Pag.redo g.pages l g.over).2) := by
  have HRD := Lib.hid (wread_any w A c l hr hl)
  have H0 := Lib.hid h
  have HPG := Lib.hid h.rest.pages
  obtain ⟨R, hR⟩ : ∃ R, Pag.redoF g.pages (Wire.count ⟨l, 0⟩ 1601).2 (Wire.count ⟨l, 0⟩ 1601).1 g.over = R := ⟨_, rfl⟩
  have HE : Hid (Pag.redo g.pages l g.over = (R.1, R.2.2)) := by show _ = _; unfold Pag.redo; rw [hR]
  have HR := Lib.hid hR
  have HNL : Hid ((Wire.count ⟨l, 0⟩ 1601).2 ≤ 1601) := count_le _ 1601
  clear h hr hl hR
  go_enter Tryz.func72, Tryz.ntmps72
  go_wp2_with fail
  refine HRD.out.mono ?_
  rintro e w1 ⟨gr, rfl, hro, hb1⟩
  have HC := Lib.hid (rcount_any w1 gr ⟨l, 0⟩ 1601 (by decide) hro.rd)
  have H1 := Lib.hid (And.intro hro.rd (And.intro hb1 hro.ge))
  clear hro hb1
  go_wp2_with fail
  refine HC.out.mono ?_
  intro e w2 hdid
  have hp2 := (H0.out.below H1.out.2.1).did H1.out.1 hdid (Nat.le_trans H0.out.wl.dl.bel.size H1.out.2.2)
  have hk2 : Keeps w w2 G.own := (Keeps.of_below H1.out.2.1).did hdid H1.out.2.2
  obtain ⟨rfl, hrd2, -⟩ := hdid
  have H2 := Lib.hid (And.intro hp2 (And.intro hrd2 hk2))
  have HGR := Lib.hid H1.out.2.2
  clear hp2 hrd2 hk2 H1 HC HRD
  generalize (Wire.count ⟨l, 0⟩ 1601).2 = N at *
  generalize (Wire.count ⟨l, 0⟩ 1601).1 = r0 at *
  go_wp2_with fail
  go_loopw [14] (fun iv wr => ∃ (i : Nat) (r : Wire.RS) (o : Pag.Pgs) (F : Nat → Option Bp), i ≤ N ∧ iv = .int .i64 (i : Int) ∧ Hid (Pag.redoF g.pages (N - i) r o = R ∧ RD wr gr r ∧ PagAt w0 wr { G with F := F } n { g with over := o } ∧ Keeps w wr G.own)) (fun iv _ => N - (intOf iv).toNat)
  case atStart => exact ⟨0, r0, g.over, G.F, Nat.zero_le _, by go_num, HR.out, H2.out.2.1, H2.out.1, H2.out.2.2⟩
  case round =>
    obtain ⟨i, r, o, F, hi, rfl, HJ⟩ := hrel
    by_cases hlt : i < N
    · have hii : (i : Int) < (N : Int) := by omega
      have hc := HJ.out.2.2.1.cells
      have hst := redoF_step g.pages (N - (i + 1)) r o
      rw [show N - (i + 1) + 1 = N - i from by omega, HJ.out.1] at hst
      have HST := Lib.hid hst
      have HC := Lib.hid (rcount_any wr gr r g.pages (by have := HPG.out; omega) HJ.out.2.1)
      clear hst
      go_wp2_with fail
      refine HC.out.mono ?_
      intro e w3 hdid
      have hw0 : w0.heap.size ≤ gr := Nat.le_trans H0.out.wl.dl.bel.size HGR.out
      have hp3 := HJ.out.2.2.1.did HJ.out.2.1 hdid hw0
      have hk3 := HJ.out.2.2.2.did hdid HGR.out
      obtain ⟨rfl, hrd3, -⟩ := hdid
      have hcl := count_le r g.pages
      obtain ⟨C, hC⟩ : ∃ C, Wire.count r (g.pages : Int) = C := ⟨_, rfl⟩
      rw [hC] at hrd3 hcl HST ⊢
      have H3 := Lib.hid (And.intro hp3 (And.intro hrd3 hk3))
      have HT := Lib.hid (rtext_any w3 gr C.1 512 (by decide) hrd3)
      have HCL := Lib.hid hcl
      clear hp3 hrd3 hk3 hcl hC HC
      go_wp2_with fail
      refine HT.out.mono ?_
      intro e w4 hdid
      have hp4 := H3.out.1.did H3.out.2.1 hdid hw0
      have hk4 := H3.out.2.2.did hdid HGR.out
      obtain ⟨rfl, hrd4, -⟩ := hdid
      obtain ⟨D, hD⟩ : ∃ D, Wire.takeText C.1 512 = D := ⟨_, rfl⟩
      rw [hD] at hrd4 HST ⊢
      have H4 := Lib.hid (And.intro hp4 (And.intro hrd4 hk4))
      have HER := Lib.hid (rerr_any w4 gr D.1 hrd4)
      have hc4 := hp4.cells
      clear hp4 hrd4 hk4 hD HT
      go_wp2_with fail
      refine HER.out.mono ?_
      rintro e w5 ⟨rfl, rfl⟩
      by_cases he : D.1.e = 0
      · rw [he]
        by_cases h5 : D.2.length = 512
        · have hs2 := HST.out
          rw [if_neg (by rw [he, h5]; simp)] at hs2
          have HS2 := Lib.hid hs2
          obtain ⟨c7, w7, hrun, hrow7, hu7, hb7, hc7⟩ := run_str_bytes2 w4 D.2
          have hp7 := H4.out.1.below hb7
          have hc := hp7.cells
          have HM := Lib.hid hp7.rest.map
          have H7 := Lib.hid (And.intro hp7 (And.intro (H4.out.2.1.below hb7) (And.intro (H4.out.2.2.then hb7) (And.intro hrow7 (And.intro hu7 hc7)))))
          have HPP : Hid (C.2 < g.pages + 1) := by show C.2 < _; have := HCL.out; omega
          have HPL : Hid (g.pages + 1 < 100000000) := by show _ < _; have := HPG.out; omega
          have H512 := Lib.hid h5
          rw [h5] at hrun
          have hnl := HNL.out
          clear hs2 hp7 hrow7 hu7 hb7 hc7 HST he
          go_wp2_with (first | (refine wpList_guardP (by kernel_rfl) ?_; refine wpList_len_txt rfl (.tmp 28) rfl D.2 rfl ?_; rw [H512.out]) | refine wpList_pg_update rfl rfl _ _ _ rfl rfl HM.out.map C.2 rfl HPP.out HPL.out _ rfl ?_; intro w8 hm8 hg8; have H8 := Lib.hid (And.intro hm8 hg8))
          clear hm8 hg8
          go_roundw
          case rel =>
            obtain ⟨hp7, hrd7, hk7, hrow7, hu7, hc7⟩ := H7.out
            obtain ⟨hm8, hg8⟩ := H8.out
            have htag := hp7.mapTag
            have hpm := HM.out.put (p := ⟨some ⟨w4.heap.size, 0, none⟩, c7, D.2⟩) (by unfold Bp.v; simp only [H512.out]; exact hm8) hg8 ⟨hrow7, fun _ a ha => by cases ha; exact hu7⟩ H512.out
            refine ⟨i + 1, D.1, Pag.put o C.2 D.2, _, by omega, by go_num, HS2.out.symm, ?_, hp7.overMap hpm hg8, ?_⟩
            · exact hrd7.offK (Keeps.of_grown hg8) (Off.one (by rw [htag]; simp)) (Off.one (by rw [htag]; simp))
            · exact hk7.trans ((Keeps.of_grown hg8).mono fun i hi => .inr (.inr (.inr (.inl hi))))
          case measure => simp [intOf]; omega
        · have hs2 := HST.out
          rw [if_pos (.inr h5)] at hs2
          have HS2 := Lib.hid hs2
          have h5' := neq512 h5
          clear hs2 HST he h5
          go_wp2_with (refine wpList_guardP (by kernel_rfl) ?_; refine wpList_len_txt rfl (.tmp 28) rfl D.2 rfl ?_)
          go_ret
          rw [HE.out, HS2.out]
          exact ⟨{ G with F := F }, rfl, rfl, rfl, H4.out.1, fun i hi => .inl hi, H4.out.2.2⟩
      · have hs2 := HST.out
        rw [if_pos (.inl he)] at hs2
        have HS2 := Lib.hid hs2
        have he2 := code_ne he
        clear hs2 HST he
        go_wp2_with fail
        go_ret
        rw [HE.out, HS2.out]
        exact ⟨{ G with F := F }, rfl, rfl, rfl, H4.out.1, fun i hi => .inl hi, H4.out.2.2⟩
    · have hii : ¬ (i : Int) < (N : Int) := by omega
      obtain rfl : i = N := by omega
      have hR0 : R = (o, r, (Wire.fin r).e) := by rw [← HJ.out.1, Nat.sub_self]; rfl
      have HR0 := Lib.hid hR0
      have HEN := Lib.hid (rend_any wr gr r HJ.out.2.1)
      clear hR0
      go_wp2_with fail
      refine HEN.out.mono ?_
      intro e w3 hdid
      have hp3 := HJ.out.2.2.1.did HJ.out.2.1 hdid (Nat.le_trans H0.out.wl.dl.bel.size HGR.out)
      have hk3 := HJ.out.2.2.2.did hdid HGR.out
      obtain ⟨rfl, -, -⟩ := hdid
      have H3 := Lib.hid (And.intro hp3 hk3)
      clear hp3 hk3
      go_wp2_with fail
      go_ret
      rw [HE.out, HR0.out]
      exact ⟨{ G with F := F }, rfl, rfl, rfl, H3.out.1, fun i hi => .inl hi, H3.out.2⟩
end Go.Proofs.YtcfoihihinijlaaGreat
end

section
namespace Go.Proofs.YtcfoihihinijlaaGreat
set_option linter.unusedSimpArgs false
set_option linter.unusedVariables false
open Go.RowKit Go.Maps
theorem PoolOf.newX {X : Nat → Prop} {w : World} {B N n : Nat} {b : PB} (h : PoolOf w B b N (PS.new n)) : PoolX X w B b N (PS.new n) := by
  obtain ⟨p, c, h1, h2, h3, h4⟩ := h
  refine ⟨p, c, h1, h2, h3, h4, fun f hf hs => ?_⟩
  have hL : p.L.map Fr.bare = List.replicate n fr0 := congrArg PS.L h1
  have : f.bare = fr0 := List.eq_of_mem_replicate (hL ▸ List.mem_map_of_mem hf)
  exact absurd (show f.s = [] from congrArg Fr.s this) hs
theorem PoolX.lowB {X : Nat → Prop} {w : World} {B B' N : Nat} {b : PB} {q : PS} (h : PoolX X w B b N q) (hB : B' ≤ B) : PoolX X w B' b N q := by
  obtain ⟨p, c, h1, h2, h3⟩ := h
  exact ⟨p, c, h1, ⟨Nat.le_trans hB h2.lp, Nat.le_trans hB h2.lf, Nat.le_trans hB h2.lm, h2.head, h2.frames.mono hB, h2.map, h2.bytes, h2.far⟩, h3⟩
section
variable {w0 w w' : World} {G : GB} {n : Nat} {g : Pag.PG}
theorem PagAt.offOwn (h : PagAt w0 w G n g) {T : TypeId} (h1 : T ≠ 136) (h2 : T ≠ eDB.e) (h3 : T ≠ 192) (h4 : T ≠ 197) (h5 : T ≠ 199) (h6 : T ≠ 119) (h7 : T ≠ 121) (h8 : T ≠ 4) : Off w G.own T := by
  rintro i (hi | hi | rfl | rfl | ⟨U, hU, hi⟩ | ⟨a, ha, rfl⟩) ht
  · exact h.wl.offOwn h1 h2 h3 i hi ht
  · exact h.pool.off h4 h5 i hi ht
  · rw [h.blk.tag] at ht
    exact h6 (Option.some.inj ht).symm
  · rw [h.mapTag] at ht
    cases ht
  · rcases h.split with ⟨q1, -⟩ | ⟨U', t, q1, q2, hta, -⟩
    · rw [hU] at q1; cases q1
    · rw [hU] at q1
      cases q1
      rcases hi with rfl | rfl | ⟨a, ha, rfl⟩
      · rw [hta.blk.tag] at ht
        exact h7 (Option.some.inj ht).symm
      · rw [hta.map.map.tag] at ht
        cases ht
      · rw [hta.used.tag a ha] at ht
        exact h8 (Option.some.inj ht).symm
  · rw [h.rest.used.tag a ha] at ht
    exact h8 (Option.some.inj ht).symm
end
theorem pg_txt_list (l : List UInt8) : (ByteArray.mk l.toArray).toList = l := by rw [Lib.toList_data]
theorem pg_str_ne (l m : List UInt8) (w : World) : (binOp .neq 9 (txt l) (txt m)).run Tryz.prog w = .ok (.bool (!(l == m))) w := by
  unfold txt
  rw [binOp_string_neq, pg_txt_list, pg_txt_list]
  rfl
theorem pg_eqg (t : TypeId) (x y : Operand) (l m : List UInt8) : eqGuard .neq t x y (txt l) (txt m) = pure () := rfl
theorem parse_short : ∀ (f : Nat) (b : List UInt8), ∀ s ∈ (Wal.parse f b).1, s.length ≤ b.length
  | 0, _ => fun s hs => by cases hs
  | f + 1, b => by
    rw [Wal.parse]
    split
    · intro s hs; cases hs
    · split
      · intro s hs; cases hs
      · split
        · intro s hs; cases hs
        · have hl := Wire.take_len ⟨b, 0⟩
          have ih := parse_short f ((Wire.take ⟨b, 0⟩).1.l.drop (4 + (Wire.take ⟨b, 0⟩).2))
          simp only [List.length_drop] at ih hl
          split
          rename_i r e hq
          rw [hq] at ih
          simp only at ih
          split
          · intro s hs
            rcases List.mem_cons.1 hs with rfl | hs
            · rw [List.length_take, List.length_drop]
              omega
            · have := ih s hs
              omega
          · intro s hs; cases hs
theorem openW_short (d : DS) (at_ room : Nat) : ∀ s ∈ (d.openW at_ room).recs, s.length ≤ room := by
  unfold DS.openW
  split
  · intro s hs; cases hs
  · split
    · split
      · intro s hs; cases hs
      · intro s hs; cases hs
    · split
      · intro s hs; cases hs
      · intro s hs
        have h1 := parse_short _ _ s hs
        rw [DS.body_length] at h1
        have h2 : (d.pick at_ room).2 ≤ room := by
          have := (d.picks_le at_ room 2).1
          rw [d.picks_two] at this
          exact this
        omega
theorem openW_count (d : DS) (at_ room : Nat) : (d.openW at_ room).recs.length ≤ room := by
  unfold DS.openW
  split
  · exact Nat.zero_le _
  · split
    · split
      · exact Nat.zero_le _
      · exact Nat.zero_le _
    · split
      · exact Nat.zero_le _
      · have h1 := records_length (d.body at_ (d.pick at_ room).2)
        rw [DS.body_length] at h1
        have h2 : (d.pick at_ room).2 ≤ room := by
          have := (d.picks_le at_ room 2).1
          rw [d.picks_two] at this
          exact this
        exact Nat.le_trans h1 h2
theorem new_get (n : Nat) (k : Nat) : ((PS.new n).get (k : Int)).1 = none := by
  unfold PS.get
  have : whereOf (PS.new n).L (k : Int) = none := by
    unfold whereOf
    rw [if_pos (by omega)]
    rw [List.findIdx?_eq_none_iff]
    intro f hf
    rw [List.eq_of_mem_replicate hf]
    simp [fr0]
  rw [this]
theorem fresh_len {w0 w : World} {G : GB} {n frames : Nat} {g : Pag.PG} (h : PagAt w0 w G n g) (hq : g.q = PS.new frames) (he : (g.read 0).2.2 = 0) : (g.read 0).2.1.length = 512 := by
  unfold Pag.PG.read at he ⊢
  cases ho : g.over 0 with
  | some b =>
    obtain ⟨p, -, hl, -, h5⟩ := h.rest.map.has_ ho
    simp only
    rw [← hl]
    exact h5
  | none =>
    have hn : (g.q.get ((0 : Nat) : Int)).1 = none := by rw [hq]; exact new_get frames 0
    rw [ho] at he
    simp only at he ⊢
    rw [hn] at he ⊢
    simp only at he ⊢
    split
    · next h1 => rw [if_pos h1] at he; exact absurd he h1
    · exact DS.block_length _ _
theorem Keeps.via {w wr w' : World} {S T : Nat → Prop} (h : Keeps w wr S) (k : Keeps wr w' T) (hT : ∀ i, T i → S i ∨ w.heap.size ≤ i) : Keeps w w' S :=
  ⟨k.os.trans h.os, k.tape.trans h.tape, k.output.trans h.output, Nat.le_trans h.size k.size, fun i hi hs => (k.block i (Nat.lt_of_lt_of_le hi h.size) (fun ht => by
    rcases hT i ht with h1 | h1
    · exact hs h1
    · omega)).trans (h.block i hi hs)⟩
def RetOpen (w0 w : World) (k : KB) (n : Nat) (r : DS × Option Pag.PG × Int) (e : Ending) (w' : World) : Prop :=
  (∀ g, r.2.1 = some g → ∃ G, e = .returned (.tuple #[.pointer (some ⟨G.gp, 0, none⟩), .int .i64 0]) ∧ G.k = k ∧ G.tx = none ∧ PagAt w0 w' G n g ∧ (∀ i, G.own i → k.own i ∨ w.heap.size ≤ i) ∧ Keeps w w' k.own) ∧
  (r.2.1 = none → e = .returned (.tuple #[.pointer none, .int .i64 r.2.2]) ∧ DL w0 w' k r.1 n ∧ Keeps w w' k.own)
theorem redos_step (pages : Nat) (s : List UInt8) (L : List (List UInt8)) (o : Pag.Pgs) : Pag.redos pages (s :: L) o = if (Pag.redo pages s o).2 ≠ 0 then Pag.redo pages s o else Pag.redos pages L (Pag.redo pages s o).1 := rfl
theorem open_eq {d : DS} {blocks pages frames : Nat} (hN : d.blocks.length = blocks + pages + 2) (h4 : 4 ≤ blocks) (h1 : 1 ≤ pages) (h16 : pages ≤ 1600) (hf1 : 1 ≤ frames) (hf2 : frames ≤ 64) :
    Pag.open_ d (blocks : Nat) (frames : Nat) = if d.why 0 ≠ 0 then (d, none, d.why 0) else if d.block 0 = Pag.label blocks pages then Pag.openRest d blocks pages frames else if (Pag.lay d blocks pages).2 ≠ 0 then ((Pag.lay d blocks pages).1, none, (Pag.lay d blocks pages).2) else Pag.openRest (Pag.lay d blocks pages).1 blocks pages frames := by
  have hm : min ((d.blocks.length : Int) - 2 - (blocks : Int)) 1600 = (pages : Int) := by omega
  unfold Pag.open_
  simp only [hm]
  rw [if_neg (by omega), Int.toNat_natCast, Int.toNat_natCast, Int.toNat_natCast]
theorem read_disk (g : Pag.PG) (k : Nat) : (g.read k).1.d = g.d := by
  unfold Pag.PG.read
  split
  · rfl
  · split
    · rfl
    · split <;> rfl
theorem load_disk (g : Pag.PG) : g.load.1.d = g.d := by
  unfold Pag.PG.load
  split
  · exact read_disk g 0
  · exact read_disk g 0
theorem load_tx (g : Pag.PG) (h : g.tx = none) : g.load.1.tx = none := by
  unfold Pag.PG.load
  split
  · exact read_tx g 0 h
  · exact read_tx g 0 h
theorem lay_len (d : DS) (blocks pages : Nat) : (Pag.lay d blocks pages).1.blocks.length = d.blocks.length := by
  unfold Pag.lay
  simp only
  split
  · exact write_length _ _ _
  · split
    · rw [write_length, write_length]
    · split
      · rw [write_length, write_length, write_length]
      · split
        · rw [flush_length, write_length, write_length, write_length]
        · split
          · rw [write_length, flush_length, write_length, write_length, write_length]
          · rw [flush_length, write_length, flush_length, write_length, write_length, write_length]
theorem openRest_load (d : DS) (blocks pages frames : Nat) : Pag.openRest d blocks pages frames = if (d.openW 1 ((blocks - 2) * 512)).e ≠ 0 then ((d.openW 1 ((blocks - 2) * 512)).d, none, (d.openW 1 ((blocks - 2) * 512)).e) else if (Pag.redos pages (d.openW 1 ((blocks - 2) * 512)).recs Pag.none_).2 ≠ 0 then ((d.openW 1 ((blocks - 2) * 512)).d, none, (Pag.redos pages (d.openW 1 ((blocks - 2) * 512)).recs Pag.none_).2) else if (({ Pag.PG.fresh (d.openW 1 ((blocks - 2) * 512)).d (d.openW 1 ((blocks - 2) * 512)).l (PS.new frames) blocks pages with over := (Pag.redos pages (d.openW 1 ((blocks - 2) * 512)).recs Pag.none_).1 } : Pag.PG).load).2 ≠ 0 then ((d.openW 1 ((blocks - 2) * 512)).d, none, (({ Pag.PG.fresh (d.openW 1 ((blocks - 2) * 512)).d (d.openW 1 ((blocks - 2) * 512)).l (PS.new frames) blocks pages with over := (Pag.redos pages (d.openW 1 ((blocks - 2) * 512)).recs Pag.none_).1 } : Pag.PG).load).2) else ((d.openW 1 ((blocks - 2) * 512)).d, some (({ Pag.PG.fresh (d.openW 1 ((blocks - 2) * 512)).d (d.openW 1 ((blocks - 2) * 512)).l (PS.new frames) blocks pages with over := (Pag.redos pages (d.openW 1 ((blocks - 2) * 512)).recs Pag.none_).1 } : Pag.PG).load).1, 0) := by
  unfold Pag.openRest
  simp only
  generalize d.openW 1 ((blocks - 2) * 512) = o
  split
  · rfl
  · split
    · rfl
    · unfold Pag.PG.load Pag.PG.fresh
      simp only
      split
      · rfl
      · next h => simp
set_option maxRecDepth 20000 in
set_option maxHeartbeats 8000000 in
theorem popen_any (w0 w : World) (k : KB) (d : DS) (n blocks pages frames : Nat) (h : DL w0 w k d n) (hn : n + 20 < 1000000) (hN : d.blocks.length = blocks + pages + 2) (h4 : 4 ≤ blocks) (hb : blocks ≤ 1000) (h1 : 1 ≤ pages) (h16 : pages ≤ 1600) (hf1 : 1 ≤ frames) (hf2 : frames ≤ 64) :
    Calls Tryz.prog 20 #[.pointer (some ⟨k.gd, 0, none⟩), .int .i64 (blocks : Nat), .int .i64 (frames : Nat)] w (RetOpen w0 w k (n + 20) (Pag.open_ d (blocks : Nat) (frames : Nat))) := by
  obtain ⟨R, hR⟩ : ∃ R, Pag.open_ d (blocks : Nat) (frames : Nat) = R := ⟨_, rfl⟩
  rw [hR]
  rw [open_eq hN h4 h1 h16 hf1 hf2] at hR
  have HR := Lib.hid hR
  have H0 := Lib.hid h
  have HB := Lib.hid (blocks_any w _ k d h.at_)
  have HNN := Lib.hid hN
  rw [hN] at HB
  have hq1 : ¬ (blocks : Int) < 4 := by omega
  have hq2 : ¬ ((blocks + pages + 2 : Nat) : Int) < (blocks : Int) := by omega
  have hq3 : ¬ (pages : Int) < 1 := by omega
  have hmm : (blocks : Int) + (pages : Int) - (blocks : Int) = (pages : Int) := by omega
  have hq4 : ¬ (blocks : Int) + (pages : Int) + 2 < (blocks : Int) := by omega
  have hmn : min (pages : Int) 1600 = (pages : Int) := by omega
  clear h hR
  go_enter Tryz.func20, Tryz.ntmps20
  go_wp2_with fail
  refine HB.out.mono ?_
  rintro e w1 ⟨rfl, rfl⟩
  go_wp2_with fail
  refine HB.out.mono ?_
  rintro e w1 ⟨rfl, rfl⟩
  go_wp2_with fail
  refine (new_of w frames (by omega) hf2).mono ?_
  rintro e w1 ⟨b, rfl, hpo, hb1⟩
  have H1 := Lib.hid (And.intro hpo (And.intro hb1 (H0.out.below hb1)))
  have hmk := @run_makeMap Tryz.prog
  clear hpo hb1
  go_upto_region 8 with fail
  obtain ⟨G, hG⟩ : ∃ G : GB, G = ⟨k, 0, b, w1.heap.size + 1, w1.heap.size, none, 0, none, 0, fun _ => none, none⟩ := ⟨_, rfl⟩
  obtain ⟨W2, hW2⟩ : ∃ W2, W2 = (w1.alloc (.map #[] 0)).alloc (.cells (pg0Cells G blocks pages).toArray 119) := ⟨_, rfl⟩
  have hs1 : (w1.alloc (.map #[] 0)).heap.size = w1.heap.size + 1 := by simp
  have H2 : Hid (Pg0 w0 W2 G n d (PS.new frames) blocks pages ∧ Keeps w W2 k.own ∧ (∀ i, G.b.own i ∨ i = G.gp ∨ i = G.gm → w.heap.size ≤ i) ∧ G.k = k) := by
    obtain ⟨hpo, hb1, hdl⟩ := H1.out
    have hbm : Below w1.heap.size w1 (w1.alloc (.map #[] 0)) := (Below.refl _ _).alloc (Nat.le_refl _) _
    obtain ⟨bp, -, hbp⟩ := fresh1 (w := w1.alloc (.map #[] 0)) (a := pg0Cells G blocks pages) (t := 119) rfl
    have hb2 : Below w1.heap.size w1 W2 := by rw [hW2]; exact hbm.then hbp
    have hw0 : w0.heap.size ≤ w.heap.size := H0.out.bel.size
    have hsw := hb1.size
    have hmap : PMap W2 w1.heap.size (pages + 1) (fun _ => none) Pag.none_ := by rw [hW2]; exact (PMap.made w1 (pages + 1)).below hbp
    rw [hs1, ← hW2] at bp
    refine ⟨⟨?_, ?_, ?_, ?_, ?_, ?_, ?_, h16, hb⟩, (Keeps.of_below hb1).then hb2, fun i hi => ?_, by rw [hG]⟩
    · rw [show G.gp = w1.heap.size + 1 from by rw [hG]]; exact bp
    · rw [show G.k = k from by rw [hG]]; exact hdl.below hb2
    · rw [show G.k = k from by rw [hG], show G.b = b from by rw [hG]]
      exact ((hpo.newX.lowB hw0).mono (Nat.zero_le _)).offK (Keeps.nil hb2) (Off.nil _ _) (Off.nil _ _) (fun h => h) (fun _ h => h.elim)
    · rw [show G.gm = w1.heap.size from by rw [hG]]; exact hmap
    · rw [show G.gm = w1.heap.size from by rw [hG]]; omega
    · rw [show G.gp = w1.heap.size + 1 from by rw [hG]]; omega
    · rw [show G.gm = w1.heap.size from by rw [hG], show G.b = b from by rw [hG]]
      have := (hpo.lt b.gm (.inr (.inr rfl))).2
      omega
    · rw [hG] at hi
      rcases hi with hi | hi | hi
      · exact (hpo.lt i hi).1
      · simp only at hi; omega
      · simp only at hi; omega
  have hgp : w1.heap.size + 1 = G.gp := by rw [hG]
  have hW2' : (w1.alloc (.map #[] 0)).alloc (.cells #[.pointer (some ⟨k.gd, 0, none⟩), .pointer none, .pointer (some ⟨b.gp, 0, none⟩), .int .i64 (blocks : Nat), .int .i64 (pages : Nat), .slice none 0 0, .slice none 0 0, .map (some w1.heap.size), .pointer none, .bool false] 119) = W2 := by rw [hW2, hG]; rfl
  rw [hW2', hgp]
  clear hW2 hW2' hG hgp hs1 H1 hmk HB
  by_cases hw : d.why 0 = 0
  · obtain ⟨hdn, -, -⟩ := why_zero hw
    have hR2 := HR.out
    rw [if_neg (by rw [hw]; simp)] at hR2
    have HR2 := Lib.hid hR2
    have HRD := Lib.hid (read_blk W2 _ G.k d H2.out.1.dl.at_ 0 (by omega) hdn 0 rfl)
    rw [H2.out.2.2.2] at HRD
    clear hw hdn hR2 HR
    go_wp2_with fail
    refine HRD.out.mono ?_
    rintro e w3 ⟨A3, c3, rfl, ho3, hb3⟩
    have H3 := Lib.hid (And.intro (H2.out.1.below hb3) (And.intro (H2.out.2.1.then hb3) ho3))
    clear ho3 hb3 HRD
    have HLB := Lib.hid (label_any w3.drew blocks pages (by omega) (by omega))
    have hcv := run_string_bytes w3.drew (c := c3) H3.out.2.2.row
    rw [DS.block_length] at hcv
    go_upto_region 11 with fail
    refine wp_region_plan (.take 0 (.take 1 (.take 2 (.take 3 (.run 4 [0, 1] (.take 5 (.take 6 .fin))))))) (by kernel_rfl) (by kernel_rfl) (by kernel_rfl) (by kernel_rfl) ?_
    repeat' (first | (refine hZ _ _ ?_; clear hZ) | (refine hZ _ ?_; clear hZ) | (refine hZ ?_; clear hZ) | rw [again_nil] | rw [walk_fin] | ((first | rw [walk_take] | rw [walk_run] | rw [again_cons]); intro Z hZ; simp only [sel, List.getElem?_toArray, List.getElem?_cons_zero, List.getElem?_cons_succ]; go_wp2_with (fail)))
    refine HLB.out.mono ?_
    rintro e w4 ⟨A4, c4, rfl, ho4, hb4⟩
    have hcv2 := run_string_bytes w4 (c := c4) ho4.row
    have hcv3 := run_string_bytes w4 (c := c3) (H3.out.2.2.row.below ((Below.refl _ _).drew.trans hb4))
    rw [DS.block_length] at hcv3
    have hbd : Below w3.heap.size w3 w4 := (Below.refl _ _).drew.trans hb4
    have H4 := Lib.hid (And.intro (H3.out.1.below hbd) (H3.out.2.1.then hbd))
    have hne := pg_str_ne (d.block 0) (Pag.label blocks pages) w4
    have heg := pg_eqg
    clear ho4 hb4 hbd H3 HLB
    by_cases hlab : d.block 0 = Pag.label blocks pages
    · have hR2 := HR2.out
      rw [if_pos hlab] at hR2
      have HRT := Lib.hid hR2
      rw [hlab] at hne hcv hcv3 ⊢
      simp only [beq_self_eq_true, Bool.not_true] at hne
      have HLN : Hid (1 + blocks ≤ d.blocks.length) := by show _ ≤ _; omega
      clear hR2 HR2
      go_wp2_with fail
      repeat' (first | (refine hZ _ _ ?_; clear hZ) | (refine hZ _ ?_; clear hZ) | (refine hZ ?_; clear hZ) | rw [again_nil] | rw [walk_fin] | ((first | rw [walk_take] | rw [walk_run] | rw [again_cons]); intro Z hZ; simp only [sel, List.getElem?_toArray, List.getElem?_cons_zero, List.getElem?_cons_succ]; go_wp2_with (fail)))
      go_upto_region 15 with fail
      obtain ⟨O, hO⟩ : ∃ O, (d : DS).openW 1 ((blocks - 2) * 512) = O := ⟨_, rfl⟩
      have HJN := Lib.hid (pjn_any w0 w4 G n d (PS.new frames) blocks pages H4.out.1 (by omega) (by omega) HLN.out)
      have HOR : Hid (R = if O.e ≠ 0 then (O.d, none, O.e) else if (Pag.redos pages O.recs Pag.none_).2 ≠ 0 then (O.d, none, (Pag.redos pages O.recs Pag.none_).2) else if (({ Pag.PG.fresh O.d O.l (PS.new frames) blocks pages with over := (Pag.redos pages O.recs Pag.none_).1 } : Pag.PG).load).2 ≠ 0 then (O.d, none, (({ Pag.PG.fresh O.d O.l (PS.new frames) blocks pages with over := (Pag.redos pages O.recs Pag.none_).1 } : Pag.PG).load).2) else (O.d, some (({ Pag.PG.fresh O.d O.l (PS.new frames) blocks pages with over := (Pag.redos pages O.recs Pag.none_).1 } : Pag.PG).load).1, 0)) := by
        show _ = _
        rw [← HRT.out, openRest_load, hO]
      rw [hO] at HJN
      have HCO : Hid (O.recs.length ≤ (blocks - 2) * 512) := by show O.recs.length ≤ _; rw [← hO]; exact openW_count _ _ _
      have HSO : Hid (∀ s ∈ O.recs, s.length ≤ (blocks - 2) * 512) := by show ∀ s ∈ O.recs, _; rw [← hO]; exact openW_short _ _ _
      clear hO HRT
      go_wp2_with fail
      refine HJN.out.mono ?_
      intro e w6 hjn
      by_cases hz : O.e = 0
      · obtain ⟨gl, A6, c6, ps, rfl, hgl, hp6, hps, hpx, hk6⟩ := hjn.1 hz
        have hs6 := H4.out.2.size
        have HOR2 := Lib.hid HOR.out
        rw [if_neg (by rw [hz]; simp)] at HOR2
        have H6 : Hid (PagAt w0 w6 (G.fresh gl) (n + 2) (Pag.PG.fresh O.d O.l (PS.new frames) blocks pages) ∧ EOwn ePart w6 w.heap.size A6 c6 ps ∧ PartsX k.own w6 ps O.recs ∧ Keeps w w6 k.own) := by
          refine ⟨hp6, hps.lowB hs6, H2.out.2.2.2 ▸ hpx, H4.out.2.via hk6 fun i hi => ?_⟩
          rcases hi with hi | hi
          · exact .inl (H2.out.2.2.2 ▸ hi)
          · exact .inr (H2.out.2.2.1 i (.inr (.inl hi)))
        have HGL : Hid (w.heap.size ≤ gl) := by show _ ≤ _; omega
        have HPL : Hid (ps.map (·.l) = O.recs) := hpx.1
        clear hjn hz hgl hp6 hps hpx hk6 hs6 HOR HJN
        have HSH : Hid (∀ s ∈ O.recs, s.length ≤ 1000000) := fun s hs => by
          have := HSO.out s hs
          omega
        have hpn : ps.length ≤ 1000000 := by
          have h1 := HCO.out
          rw [← HPL.out, List.length_map] at h1
          omega
        obtain ⟨RS, hRS⟩ : ∃ RS, Pag.redos pages O.recs Pag.none_ = RS := ⟨_, rfl⟩
        rw [hRS] at HOR2
        have HRS := Lib.hid hRS
        clear hRS
        go_wp2_with fail
        go_loopw [86] (fun iv wr => ∃ (i : Nat) (G' : GB) (o : Pag.Pgs), i ≤ ps.length ∧ iv = .int .i64 (i : Int) ∧ Hid (Pag.redos pages (O.recs.drop i) o = RS ∧ PagAt w0 wr G' (n + 2) { Pag.PG.fresh O.d O.l (PS.new frames) blocks pages with over := o } ∧ G'.gp = G.gp ∧ G'.k = k ∧ (∀ i, G'.own i → k.own i ∨ w.heap.size ≤ i) ∧ EOwn ePart wr w.heap.size A6 c6 ps ∧ PartsX k.own wr ps O.recs ∧ Keeps w wr k.own)) (fun iv _ => ps.length - (intOf iv).toNat)
        case atStart =>
          refine ⟨0, G.fresh gl, Pag.none_, Nat.zero_le _, by go_num, HRS.out, H6.out.1, rfl, H2.out.2.2.2, fun i hi => ?_, H6.out.2.1, H6.out.2.2.1, H6.out.2.2.2⟩
          have hgl := HGL.out
          have hlo := H2.out.2.2.1
          rcases hi with (hi | hi) | hi | hi | hi | ⟨T, hT, -⟩ | ⟨a, ha, -⟩
          · exact .inl (H2.out.2.2.2 ▸ hi)
          · exact .inr (by rw [hi]; exact hgl)
          · exact .inr (hlo i (.inl hi))
          · exact .inr (hlo i (.inr (.inl hi)))
          · exact .inr (hlo i (.inr (.inr hi)))
          · cases hT
          · cases ha
        case round =>
          obtain ⟨i, G', o, hi, rfl, HJ⟩ := hrel
          by_cases hlt : i < ps.length
          · have hii : (i : Int) < (ps.length : Int) := by omega
            obtain ⟨hrs, hpg, e1, e2, hown, hps, hpx, hkk⟩ := HJ.out
            obtain ⟨bb, oo, rfl, hbb, hcl⟩ := hps.row.at_ hlt
            have hq := hcl 0 _ rfl
            simp only [ePart, Nat.mul_one, Nat.add_zero] at hq
            unfold Part.v at hq
            have hlr : i < O.recs.length := by rw [← HPL.out, List.length_map]; exact hlt
            have hpl : ps[i].l = O.recs[i] := by simp only [← HPL.out, List.getElem_map]
            have hok := (hpx.2 _ (List.getElem_mem hlt)).1
            have hst : RS = if (Pag.redo pages ps[i].l o).2 ≠ 0 then Pag.redo pages ps[i].l o else Pag.redos pages (O.recs.drop (i + 1)) (Pag.redo pages ps[i].l o).1 := by
              rw [← hrs, List.drop_eq_getElem_cons hlr, redos_step, hpl]
            have HST := Lib.hid hst
            have HRE := Lib.hid (predo_any w0 wr G' (n + 2) _ hpg ps[i].a ps[i].c ps[i].l hok.1 (by rw [hpl]; exact HSH.out _ (List.getElem_mem hlr)))
            rw [e1] at HRE
            generalize ps[i] = p at *
            clear hcl hrs hpg e1 e2 hown hps hpx hkk hlr hpl hok hst
            go_wp2_with fail
            refine HRE.out.mono ?_
            rintro e w7 ⟨G7, rfl, a1, a2, a3, a4, a5⟩
            have H7 : Hid (PagAt w0 w7 G7 (n + 2) { Pag.PG.fresh O.d O.l (PS.new frames) blocks pages with over := (Pag.redo pages p.l o).1 } ∧ G7.gp = G.gp ∧ G7.k = k ∧ (∀ i, G7.own i → k.own i ∨ w.heap.size ≤ i) ∧ EOwn ePart w7 w.heap.size (some ⟨bb, oo, none⟩) c6 ps ∧ PartsX k.own w7 ps O.recs ∧ Keeps w w7 k.own) := by
              obtain ⟨hrs, hpg, e1, e2, hown, hps, hpx, hkk⟩ := HJ.out
              refine ⟨a3, a1.trans e1, a2.trans e2, fun j hj => ?_, hps.offK a5 (hpg.offOwn (by decide) (by decide) (by decide) (by decide) (by decide) (by decide) (by decide) (by decide)), ?_, hkk.via a5 hown⟩
              · rcases a4 j hj with h | h
                · exact hown j h
                · exact .inr (Nat.le_trans hkk.size h)
              · have ho8 := hpg.offOwn (T := 5) (by decide) (by decide) (by decide) (by decide) (by decide) (by decide) (by decide) (by decide)
                exact hpx.keepB a5.size fun j hj _ => a5.block _ hj.lt fun hs => ho8 _ hs hj.tag
            clear a1 a2 a3 a4 a5 HRE hq
            by_cases hz : (Pag.redo pages p.l o).2 = 0
            · have hs2 := HST.out
              rw [if_neg (by rw [hz]; simp)] at hs2
              have HS2 := Lib.hid hs2
              rw [show (({ Pag.PG.fresh O.d O.l (PS.new frames) blocks pages with over := o } : Pag.PG).pages) = pages from rfl, hz]
              clear hs2 hz HST
              go_wp2_with fail
              go_roundw
              case rel => exact ⟨i + 1, G7, (Pag.redo pages p.l o).1, by omega, by go_num, HS2.out.symm, H7.out⟩
              case measure => simp [intOf]; omega
            · have hs2 := HST.out
              rw [if_pos hz] at hs2
              have HS2 : Hid (R = (O.d, none, (Pag.redo pages p.l o).2)) := by show _ = _; rw [HOR2.out, hs2, if_pos hz]
              have hz2 := code_ne hz
              rw [show (({ Pag.PG.fresh O.d O.l (PS.new frames) blocks pages with over := o } : Pag.PG).pages) = pages from rfl]
              generalize (Pag.redo pages p.l o).2 = e0 at *
              clear hs2 hz HST
              go_wp2_with fail
              go_ret2
              rw [HS2.out]
              obtain ⟨b3, b1, b2, b4, b5, b6, b7⟩ := H7.out
              exact ⟨(fun g hg => by cases hg), fun _ => ⟨rfl, b2 ▸ b3.wl.dl.more (by omega), b7⟩⟩
          · have hii : ¬ (i : Int) < (ps.length : Int) := by omega
            obtain rfl : i = ps.length := by omega
            obtain ⟨hrs, hpg, e1, e2, hown, hps, hpx, hkk⟩ := HJ.out
            have hRS : RS = (o, 0) := by rw [← hrs, List.drop_of_length_le (by rw [← HPL.out, List.length_map]; exact Nat.le_refl _)]; rfl
            have HO3 := Lib.hid HOR2.out
            rw [hRS, if_neg (by simp)] at HO3
            simp only at HO3
            have HLD := Lib.hid (pload_any w0 wr G' (n + 2) _ hpg (by omega) (fresh_len hpg rfl) rfl)
            rw [e1] at HLD
            generalize hL : ({ Pag.PG.fresh O.d O.l (PS.new frames) blocks pages with over := o } : Pag.PG).load = L at *
            have HLT : Hid (L.1.d = O.d) := by show _ = _; rw [← hL]; exact load_disk _
            have HLX : Hid (L.1.tx = none) := by show _ = _; rw [← hL]; exact load_tx _ rfl
            clear hrs hpg e1 e2 hps hpx hRS HOR2 hL
            have HWN := Lib.hid (And.intro hown hkk)
            clear hown hkk
            go_wp2_with fail
            refine HLD.out.mono ?_
            rintro e w8 ⟨G8, rfl, a1, a2, a3, a4, a5⟩
            have H8 : Hid (PagAt w0 w8 G8 (n + 4) L.1 ∧ G8.gp = G.gp ∧ G8.k = k ∧ (∀ i, G8.own i → k.own i ∨ w.heap.size ≤ i) ∧ Keeps w w8 k.own) := by
              obtain ⟨hown, hkk⟩ := HWN.out
              obtain ⟨-, -, e1, e2, -⟩ := HJ.out
              refine ⟨a3, a1.trans e1, a2.trans e2, fun j hj => ?_, hkk.via a5 hown⟩
              rcases a4 j hj with h | h
              · exact hown j h
              · exact .inr (Nat.le_trans hkk.size h)
            clear a1 a2 a3 a4 a5 HLD
            by_cases hz : L.2 = 0
            · have HO4 : Hid (R = (O.d, some L.1, 0)) := by show _ = _; rw [HO3.out, if_neg (by rw [hz]; simp)]
              rw [hz]
              clear hz HO3
              go_wp2_with fail
              go_ret2
              rw [HO4.out]
              obtain ⟨b3, b1, b2, b4, b7⟩ := H8.out
              refine ⟨fun g hg => ?_, fun hg => by cases hg⟩
              cases hg
              refine ⟨G8, by rw [b1]; rfl, b2, ?_, b3.more (by omega), b4, b7⟩
              rcases b3.split with ⟨q1, -⟩ | ⟨T, t, -, q2, -⟩
              · exact q1
              · rw [HLX.out] at q2; cases q2
            · have HO4 : Hid (R = (O.d, none, L.2)) := by show _ = _; rw [HO3.out, if_pos hz]
              have hz2 := code_ne hz
              clear hz HO3
              go_wp2_with fail
              go_ret2
              rw [HO4.out]
              obtain ⟨b3, b1, b2, b4, b7⟩ := H8.out
              exact ⟨(fun g hg => by cases hg), fun _ => ⟨rfl, by have h9 := b3.wl.dl; rw [HLT.out, b2] at h9; exact h9.more (by omega), b7⟩⟩
      · obtain ⟨rfl, hdl, hk6⟩ := hjn.2 hz
        have HOR2 := Lib.hid HOR.out
        rw [if_pos hz] at HOR2
        have hz2 := code_ne hz
        have H6 : Hid (DL w0 w6 k O.d (n + 2) ∧ Keeps w w6 k.own) := by
          refine ⟨H2.out.2.2.2 ▸ hdl, H4.out.2.via hk6 fun i hi => ?_⟩
          rcases hi with hi | hi
          · exact .inl (H2.out.2.2.2 ▸ hi)
          · exact .inr (H2.out.2.2.1 i (.inr (.inl hi)))
        clear hjn hz hdl hk6 HOR HJN
        go_wp2_with fail
        go_ret2
        rw [HOR2.out]
        exact ⟨(fun g hg => by cases hg), fun _ => ⟨rfl, H6.out.1.more (by omega), H6.out.2⟩⟩
    · have hR2 := HR2.out
      rw [if_neg hlab] at hR2
      have hlb : (d.block 0 == Pag.label blocks pages) = false := by simpa using hlab
      rw [hlb] at hne
      simp only [Bool.not_false] at hne
      have HR3 := Lib.hid hR2
      have HLY := Lib.hid (play_any w0 w4 G n d (PS.new frames) blocks pages H4.out.1 (by omega))
      have hcl := H4.out.1.cells
      have hln := lay_len d blocks pages
      generalize hD : Pag.lay d blocks pages = D at *
      have HLN : Hid (1 + blocks ≤ D.1.blocks.length) := by show _ ≤ _; omega
      clear hR2 HR2 hD hlab hlb hln
      go_wp2_with fail
      repeat' (first | (refine hZ _ _ ?_; clear hZ) | (refine hZ _ ?_; clear hZ) | (refine hZ ?_; clear hZ) | rw [again_nil] | rw [walk_fin] | ((first | rw [walk_take] | rw [walk_run] | rw [again_cons]); intro Z hZ; simp only [sel, List.getElem?_toArray, List.getElem?_cons_zero, List.getElem?_cons_succ]; go_wp2_with (fail)))
      go_wp2_with fail
      refine HLY.out.mono ?_
      rintro e w5 ⟨rfl, hp5, hk5⟩
      have H5 := Lib.hid (And.intro hp5 (H4.out.2.trans (H2.out.2.2.2 ▸ hk5)))
      clear hp5 hk5 HLY hcl
      by_cases hz : D.2 = 0
      · have hR3 := HR3.out
        rw [if_neg (by rw [hz]; simp)] at hR3
        have HRT := Lib.hid hR3
        rw [hz]
        clear hR3 HR3
        go_upto_region 15 with fail
        obtain ⟨O, hO⟩ : ∃ O, (D.1 : DS).openW 1 ((blocks - 2) * 512) = O := ⟨_, rfl⟩
        have HJN := Lib.hid (pjn_any w0 w5 G (n + 6) D.1 (PS.new frames) blocks pages H5.out.1 (by omega) (by omega) HLN.out)
        have HOR : Hid (R = if O.e ≠ 0 then (O.d, none, O.e) else if (Pag.redos pages O.recs Pag.none_).2 ≠ 0 then (O.d, none, (Pag.redos pages O.recs Pag.none_).2) else if (({ Pag.PG.fresh O.d O.l (PS.new frames) blocks pages with over := (Pag.redos pages O.recs Pag.none_).1 } : Pag.PG).load).2 ≠ 0 then (O.d, none, (({ Pag.PG.fresh O.d O.l (PS.new frames) blocks pages with over := (Pag.redos pages O.recs Pag.none_).1 } : Pag.PG).load).2) else (O.d, some (({ Pag.PG.fresh O.d O.l (PS.new frames) blocks pages with over := (Pag.redos pages O.recs Pag.none_).1 } : Pag.PG).load).1, 0)) := by
          show _ = _
          rw [← HRT.out, openRest_load, hO]
        rw [hO] at HJN
        have HCO : Hid (O.recs.length ≤ (blocks - 2) * 512) := by show O.recs.length ≤ _; rw [← hO]; exact openW_count _ _ _
        have HSO : Hid (∀ s ∈ O.recs, s.length ≤ (blocks - 2) * 512) := by show ∀ s ∈ O.recs, _; rw [← hO]; exact openW_short _ _ _
        clear hO HRT
        go_wp2_with fail
        refine HJN.out.mono ?_
        intro e w6 hjn
        by_cases hz : O.e = 0
        · obtain ⟨gl, A6, c6, ps, rfl, hgl, hp6, hps, hpx, hk6⟩ := hjn.1 hz
          have hs6 := H5.out.2.size
          have HOR2 := Lib.hid HOR.out
          rw [if_neg (by rw [hz]; simp)] at HOR2
          have H6 : Hid (PagAt w0 w6 (G.fresh gl) ((n + 6) + 2) (Pag.PG.fresh O.d O.l (PS.new frames) blocks pages) ∧ EOwn ePart w6 w.heap.size A6 c6 ps ∧ PartsX k.own w6 ps O.recs ∧ Keeps w w6 k.own) := by
            refine ⟨hp6, hps.lowB hs6, H2.out.2.2.2 ▸ hpx, H5.out.2.via hk6 fun i hi => ?_⟩
            rcases hi with hi | hi
            · exact .inl (H2.out.2.2.2 ▸ hi)
            · exact .inr (H2.out.2.2.1 i (.inr (.inl hi)))
          have HGL : Hid (w.heap.size ≤ gl) := by show _ ≤ _; omega
          have HPL : Hid (ps.map (·.l) = O.recs) := hpx.1
          clear hjn hz hgl hp6 hps hpx hk6 hs6 HOR HJN
          have HSH : Hid (∀ s ∈ O.recs, s.length ≤ 1000000) := fun s hs => by
            have := HSO.out s hs
            omega
          have hpn : ps.length ≤ 1000000 := by
            have h1 := HCO.out
            rw [← HPL.out, List.length_map] at h1
            omega
          obtain ⟨RS, hRS⟩ : ∃ RS, Pag.redos pages O.recs Pag.none_ = RS := ⟨_, rfl⟩
          rw [hRS] at HOR2
          have HRS := Lib.hid hRS
          clear hRS
          go_wp2_with fail
          go_loopw [86] (fun iv wr => ∃ (i : Nat) (G' : GB) (o : Pag.Pgs), i ≤ ps.length ∧ iv = .int .i64 (i : Int) ∧ Hid (Pag.redos pages (O.recs.drop i) o = RS ∧ PagAt w0 wr G' ((n + 6) + 2) { Pag.PG.fresh O.d O.l (PS.new frames) blocks pages with over := o } ∧ G'.gp = G.gp ∧ G'.k = k ∧ (∀ i, G'.own i → k.own i ∨ w.heap.size ≤ i) ∧ EOwn ePart wr w.heap.size A6 c6 ps ∧ PartsX k.own wr ps O.recs ∧ Keeps w wr k.own)) (fun iv _ => ps.length - (intOf iv).toNat)
          case atStart =>
            refine ⟨0, G.fresh gl, Pag.none_, Nat.zero_le _, by go_num, HRS.out, H6.out.1, rfl, H2.out.2.2.2, fun i hi => ?_, H6.out.2.1, H6.out.2.2.1, H6.out.2.2.2⟩
            have hgl := HGL.out
            have hlo := H2.out.2.2.1
            rcases hi with (hi | hi) | hi | hi | hi | ⟨T, hT, -⟩ | ⟨a, ha, -⟩
            · exact .inl (H2.out.2.2.2 ▸ hi)
            · exact .inr (by rw [hi]; exact hgl)
            · exact .inr (hlo i (.inl hi))
            · exact .inr (hlo i (.inr (.inl hi)))
            · exact .inr (hlo i (.inr (.inr hi)))
            · cases hT
            · cases ha
          case round =>
            obtain ⟨i, G', o, hi, rfl, HJ⟩ := hrel
            by_cases hlt : i < ps.length
            · have hii : (i : Int) < (ps.length : Int) := by omega
              obtain ⟨hrs, hpg, e1, e2, hown, hps, hpx, hkk⟩ := HJ.out
              obtain ⟨bb, oo, rfl, hbb, hcl⟩ := hps.row.at_ hlt
              have hq := hcl 0 _ rfl
              simp only [ePart, Nat.mul_one, Nat.add_zero] at hq
              unfold Part.v at hq
              have hlr : i < O.recs.length := by rw [← HPL.out, List.length_map]; exact hlt
              have hpl : ps[i].l = O.recs[i] := by simp only [← HPL.out, List.getElem_map]
              have hok := (hpx.2 _ (List.getElem_mem hlt)).1
              have hst : RS = if (Pag.redo pages ps[i].l o).2 ≠ 0 then Pag.redo pages ps[i].l o else Pag.redos pages (O.recs.drop (i + 1)) (Pag.redo pages ps[i].l o).1 := by
                rw [← hrs, List.drop_eq_getElem_cons hlr, redos_step, hpl]
              have HST := Lib.hid hst
              have HRE := Lib.hid (predo_any w0 wr G' ((n + 6) + 2) _ hpg ps[i].a ps[i].c ps[i].l hok.1 (by rw [hpl]; exact HSH.out _ (List.getElem_mem hlr)))
              rw [e1] at HRE
              generalize ps[i] = p at *
              clear hcl hrs hpg e1 e2 hown hps hpx hkk hlr hpl hok hst
              go_wp2_with fail
              refine HRE.out.mono ?_
              rintro e w7 ⟨G7, rfl, a1, a2, a3, a4, a5⟩
              have H7 : Hid (PagAt w0 w7 G7 ((n + 6) + 2) { Pag.PG.fresh O.d O.l (PS.new frames) blocks pages with over := (Pag.redo pages p.l o).1 } ∧ G7.gp = G.gp ∧ G7.k = k ∧ (∀ i, G7.own i → k.own i ∨ w.heap.size ≤ i) ∧ EOwn ePart w7 w.heap.size (some ⟨bb, oo, none⟩) c6 ps ∧ PartsX k.own w7 ps O.recs ∧ Keeps w w7 k.own) := by
                obtain ⟨hrs, hpg, e1, e2, hown, hps, hpx, hkk⟩ := HJ.out
                refine ⟨a3, a1.trans e1, a2.trans e2, fun j hj => ?_, hps.offK a5 (hpg.offOwn (by decide) (by decide) (by decide) (by decide) (by decide) (by decide) (by decide) (by decide)), ?_, hkk.via a5 hown⟩
                · rcases a4 j hj with h | h
                  · exact hown j h
                  · exact .inr (Nat.le_trans hkk.size h)
                · have ho8 := hpg.offOwn (T := 5) (by decide) (by decide) (by decide) (by decide) (by decide) (by decide) (by decide) (by decide)
                  exact hpx.keepB a5.size fun j hj _ => a5.block _ hj.lt fun hs => ho8 _ hs hj.tag
              clear a1 a2 a3 a4 a5 HRE hq
              by_cases hz : (Pag.redo pages p.l o).2 = 0
              · have hs2 := HST.out
                rw [if_neg (by rw [hz]; simp)] at hs2
                have HS2 := Lib.hid hs2
                rw [show (({ Pag.PG.fresh O.d O.l (PS.new frames) blocks pages with over := o } : Pag.PG).pages) = pages from rfl, hz]
                clear hs2 hz HST
                go_wp2_with fail
                go_roundw
                case rel => exact ⟨i + 1, G7, (Pag.redo pages p.l o).1, by omega, by go_num, HS2.out.symm, H7.out⟩
                case measure => simp [intOf]; omega
              · have hs2 := HST.out
                rw [if_pos hz] at hs2
                have HS2 : Hid (R = (O.d, none, (Pag.redo pages p.l o).2)) := by show _ = _; rw [HOR2.out, hs2, if_pos hz]
                have hz2 := code_ne hz
                rw [show (({ Pag.PG.fresh O.d O.l (PS.new frames) blocks pages with over := o } : Pag.PG).pages) = pages from rfl]
                generalize (Pag.redo pages p.l o).2 = e0 at *
                clear hs2 hz HST
                go_wp2_with fail
                go_ret2
                rw [HS2.out]
                obtain ⟨b3, b1, b2, b4, b5, b6, b7⟩ := H7.out
                exact ⟨(fun g hg => by cases hg), fun _ => ⟨rfl, b2 ▸ b3.wl.dl.more (by omega), b7⟩⟩
            · have hii : ¬ (i : Int) < (ps.length : Int) := by omega
              obtain rfl : i = ps.length := by omega
              obtain ⟨hrs, hpg, e1, e2, hown, hps, hpx, hkk⟩ := HJ.out
              have hRS : RS = (o, 0) := by rw [← hrs, List.drop_of_length_le (by rw [← HPL.out, List.length_map]; exact Nat.le_refl _)]; rfl
              have HO3 := Lib.hid HOR2.out
              rw [hRS, if_neg (by simp)] at HO3
              simp only at HO3
              have HLD := Lib.hid (pload_any w0 wr G' ((n + 6) + 2) _ hpg (by omega) (fresh_len hpg rfl) rfl)
              rw [e1] at HLD
              generalize hL : ({ Pag.PG.fresh O.d O.l (PS.new frames) blocks pages with over := o } : Pag.PG).load = L at *
              have HLT : Hid (L.1.d = O.d) := by show _ = _; rw [← hL]; exact load_disk _
              have HLX : Hid (L.1.tx = none) := by show _ = _; rw [← hL]; exact load_tx _ rfl
              clear hrs hpg e1 e2 hps hpx hRS HOR2 hL
              have HWN := Lib.hid (And.intro hown hkk)
              clear hown hkk
              go_wp2_with fail
              refine HLD.out.mono ?_
              rintro e w8 ⟨G8, rfl, a1, a2, a3, a4, a5⟩
              have H8 : Hid (PagAt w0 w8 G8 ((n + 6) + 4) L.1 ∧ G8.gp = G.gp ∧ G8.k = k ∧ (∀ i, G8.own i → k.own i ∨ w.heap.size ≤ i) ∧ Keeps w w8 k.own) := by
                obtain ⟨hown, hkk⟩ := HWN.out
                obtain ⟨-, -, e1, e2, -⟩ := HJ.out
                refine ⟨a3, a1.trans e1, a2.trans e2, fun j hj => ?_, hkk.via a5 hown⟩
                rcases a4 j hj with h | h
                · exact hown j h
                · exact .inr (Nat.le_trans hkk.size h)
              clear a1 a2 a3 a4 a5 HLD
              by_cases hz : L.2 = 0
              · have HO4 : Hid (R = (O.d, some L.1, 0)) := by show _ = _; rw [HO3.out, if_neg (by rw [hz]; simp)]
                rw [hz]
                clear hz HO3
                go_wp2_with fail
                go_ret2
                rw [HO4.out]
                obtain ⟨b3, b1, b2, b4, b7⟩ := H8.out
                refine ⟨fun g hg => ?_, fun hg => by cases hg⟩
                cases hg
                refine ⟨G8, by rw [b1]; rfl, b2, ?_, b3.more (by omega), b4, b7⟩
                rcases b3.split with ⟨q1, -⟩ | ⟨T, t, -, q2, -⟩
                · exact q1
                · rw [HLX.out] at q2; cases q2
              · have HO4 : Hid (R = (O.d, none, L.2)) := by show _ = _; rw [HO3.out, if_pos hz]
                have hz2 := code_ne hz
                clear hz HO3
                go_wp2_with fail
                go_ret2
                rw [HO4.out]
                obtain ⟨b3, b1, b2, b4, b7⟩ := H8.out
                exact ⟨(fun g hg => by cases hg), fun _ => ⟨rfl, by have h9 := b3.wl.dl; rw [HLT.out, b2] at h9; exact h9.more (by omega), b7⟩⟩
        · obtain ⟨rfl, hdl, hk6⟩ := hjn.2 hz
          have HOR2 := Lib.hid HOR.out
          rw [if_pos hz] at HOR2
          have hz2 := code_ne hz
          have H6 : Hid (DL w0 w6 k O.d ((n + 6) + 2) ∧ Keeps w w6 k.own) := by
            refine ⟨H2.out.2.2.2 ▸ hdl, H5.out.2.via hk6 fun i hi => ?_⟩
            rcases hi with hi | hi
            · exact .inl (H2.out.2.2.2 ▸ hi)
            · exact .inr (H2.out.2.2.1 i (.inr (.inl hi)))
          clear hjn hz hdl hk6 HOR HJN
          go_wp2_with fail
          go_ret2
          rw [HOR2.out]
          exact ⟨(fun g hg => by cases hg), fun _ => ⟨rfl, H6.out.1.more (by omega), H6.out.2⟩⟩
      · have hR3 := HR3.out
        rw [if_pos hz] at hR3
        have HRT := Lib.hid hR3
        have hz2 := code_ne hz
        clear hR3 HR3 hz
        go_wp2_with fail
        go_ret2
        rw [← HRT.out]
        exact ⟨(fun g hg => by cases hg), fun _ => ⟨rfl, H2.out.2.2.2 ▸ H5.out.1.dl.more (by omega), H5.out.2⟩⟩
  · have hR2 := HR.out
    rw [if_pos hw] at hR2
    have HR2 := Lib.hid hR2
    have HRD := Lib.hid (read_bad W2 _ G.k d H2.out.1.dl.at_ 0 hw)
    rw [H2.out.2.2.2] at HRD
    have hw2 := code_ne hw
    generalize d.why 0 = e0 at *
    clear hw hR2 HR
    go_wp2_with fail
    refine HRD.out.mono ?_
    rintro e w3 ⟨rfl, rfl⟩
    go_wp2_with fail
    go_ret2
    rw [← HR2.out]
    exact ⟨(fun g hg => by cases hg), fun _ => ⟨rfl, H2.out.2.2.2 ▸ H2.out.1.dl.more (by omega), H2.out.2.1⟩⟩
end Go.Proofs.YtcfoihihinijlaaGreat
end

section
namespace Go.Proofs.YtcfoihihinijlaaGreat
set_option linter.unusedSimpArgs false
set_option linter.unusedVariables false
open Go.Shelf
def laySortI_ren : Go.Shelf.Ren := ⟨fun | 5 => 54 | 8 => 104 | 7 => 103 | 19 => 148 | 20 => 149 | 10 => 139 | 11 => 140 | 12 => 141 | 13 => 142 | 14 => 143 | 15 => 144 | 16 => 145 | 17 => 146 | 18 => 147 | 30 => 170 | 31 => 171 | 32 => 172 | 33 => 173 | 34 => 174 | 35 => 175 | 40 => 185 | n => n, fun | 23 => 37 | 25 => 3 | 3 => 3 | 32 => 50 | 22 => 37 | 0 => 0 | 44 => 235 | 46 => 45 | 4 => 4 | 36 => 229 | 35 => 228 | 41 => 168 | 5 => 5 | 9 => 9 | 53 => 259 | 57 => 262 | 63 => 270 | 64 => 271 | n => n, fun | n => n⟩
set_option maxRecDepth 20000 in
theorem laySortI : Go.Proofs.SlLaysM.n5 Tryz.prog laySortI_ren := {
  mixed := by kernel_rfl
  f5 := ⟨Tryz.f54.name, by decide, Tryz.func54.trans (congrArg some (by kernel_rfl))⟩
  f7 := ⟨Tryz.f103.name, by decide, Tryz.func103.trans (congrArg some (by kernel_rfl))⟩
  f8 := Tryz.func104.trans (congrArg some (by kernel_rfl))
  f10 := ⟨Tryz.f139.name, by decide, Tryz.func139.trans (congrArg some (by kernel_rfl))⟩
  f11 := ⟨Tryz.f140.name, by decide, Tryz.func140.trans (congrArg some (by kernel_rfl))⟩
  f12 := ⟨Tryz.f141.name, by decide, Tryz.func141.trans (congrArg some (by kernel_rfl))⟩
  f13 := ⟨Tryz.f142.name, by decide, Tryz.func142.trans (congrArg some (by kernel_rfl))⟩
  f14 := ⟨Tryz.f143.name, by decide, Tryz.func143.trans (congrArg some (by kernel_rfl))⟩
  f15 := ⟨Tryz.f144.name, by decide, Tryz.func144.trans (congrArg some (by kernel_rfl))⟩
  f16 := ⟨Tryz.f145.name, by decide, Tryz.func145.trans (congrArg some (by kernel_rfl))⟩
  f17 := ⟨Tryz.f146.name, by decide, Tryz.func146.trans (congrArg some (by kernel_rfl))⟩
  f18 := ⟨Tryz.f147.name, by decide, Tryz.func147.trans (congrArg some (by kernel_rfl))⟩
  f19 := Tryz.func148.trans (congrArg some (by kernel_rfl))
  f20 := Tryz.func149.trans (congrArg some (by kernel_rfl))
  f30 := ⟨Tryz.f170.name, by decide, Tryz.func170.trans (congrArg some (by kernel_rfl))⟩
  f31 := Tryz.func171.trans (congrArg some (by kernel_rfl))
  f32 := Tryz.func172.trans (congrArg some (by kernel_rfl))
  f33 := ⟨Tryz.f173.name, by decide, Tryz.func173.trans (congrArg some (by kernel_rfl))⟩
  f34 := ⟨Tryz.f174.name, by decide, Tryz.func174.trans (congrArg some (by kernel_rfl))⟩
  f35 := ⟨Tryz.f175.name, by decide, Tryz.func175.trans (congrArg some (by kernel_rfl))⟩
  f40 := ⟨Tryz.f185.name, by decide, Tryz.func185.trans (congrArg some (by kernel_rfl))⟩
  t0 := Tryz.underlying0
  a0 := Tryz.isAgg0
  z0 := Tryz.sizeOf0
  v0 := Tryz.zeroValue0
  t3 := Tryz.underlying3
  a3 := Tryz.isAgg3
  z3 := Tryz.sizeOf3
  v3 := Tryz.zeroValue3
  t4 := Tryz.underlying4
  a4 := Tryz.isAgg4
  z4 := Tryz.sizeOf4
  v4 := Tryz.zeroValue4
  t5 := Tryz.underlying5
  a5 := Tryz.isAgg5
  z5 := Tryz.sizeOf5
  v5 := Tryz.zeroValue5
  t9 := Tryz.underlying9
  a9 := Tryz.isAgg9
  z9 := Tryz.sizeOf9
  v9 := Tryz.zeroValue9
  t22 := Tryz.underlying37
  a22 := Tryz.isAgg37
  z22 := Tryz.sizeOf37
  v22 := Tryz.zeroValue37
  t23 := Tryz.underlying37
  a23 := Tryz.isAgg37
  z23 := Tryz.sizeOf37
  v23 := Tryz.zeroValue37
  t25 := Tryz.underlying3
  a25 := Tryz.isAgg3
  z25 := Tryz.sizeOf3
  v25 := Tryz.zeroValue3
  t32 := Tryz.underlying50
  a32 := Tryz.isAgg50
  z32 := Tryz.sizeOf50
  v32 := Tryz.zeroValue50
  t35 := Tryz.underlying228
  a35 := Tryz.isAgg228
  z35 := Tryz.sizeOf228
  v35 := Tryz.zeroValue228
  t36 := Tryz.underlying229
  a36 := Tryz.isAgg229
  z36 := Tryz.sizeOf229
  v36 := Tryz.zeroValue229
  t41 := Tryz.underlying168
  a41 := Tryz.isAgg168
  z41 := Tryz.sizeOf168
  v41 := Tryz.zeroValue168
  t44 := Tryz.underlying235
  a44 := Tryz.isAgg235
  z44 := Tryz.sizeOf235
  v44 := Tryz.zeroValue235
  t46 := Tryz.underlying45
  a46 := Tryz.isAgg45
  z46 := Tryz.sizeOf45
  v46 := Tryz.zeroValue45
  t53 := Tryz.underlying259
  a53 := Tryz.isAgg259
  z53 := Tryz.sizeOf259
  v53 := Tryz.zeroValue259
  t57 := Tryz.underlying262
  a57 := Tryz.isAgg262
  z57 := Tryz.sizeOf262
  v57 := Tryz.zeroValue262
  t63 := Tryz.underlying270
  a63 := Tryz.isAgg270
  z63 := Tryz.sizeOf270
  v63 := Tryz.zeroValue270
  t64 := Tryz.underlying271
  a64 := Tryz.isAgg271
  z64 := Tryz.sizeOf271
  v64 := Tryz.zeroValue271 }
end Go.Proofs.YtcfoihihinijlaaGreat
end

section
namespace Go.Proofs.YtcfoihihinijlaaGreat
set_option linter.unusedSimpArgs false
set_option linter.unusedVariables false
open Go.RowKit Go.Maps
structure CollI (D : DataW Value) (left : Lit → Bool) (L : List Nat) : Prop where
  nodup : L.Nodup
  mem : ∀ k : Nat, k ∈ L ↔ (has D (.int .i64 k) = true ∧ left (.int .i64 k) = false)
  sub : ∀ l, left l = true → has D l = true
theorem CollI.start (D : DataW Value) : CollI D (has D) [] := ⟨List.nodup_nil, fun k => by cases has D (.int .i64 k) <;> simp, fun _ h => h⟩
theorem CollI.step {D : DataW Value} {left : Lit → Bool} {L : List Nat} (h : CollI D left L) {k : Nat} (hl : left (.int .i64 k) = true) : CollI D (fun z => left z && !z.sameKey (.int .i64 k)) (L ++ [k]) := by
  have hnew : k ∉ L := fun hx => by have := ((h.mem k).1 hx).2; rw [hl] at this; cases this
  refine ⟨List.nodup_append.2 ⟨h.nodup, by simp, fun a ha b hb => by simp at hb; subst hb; exact fun e => hnew (e ▸ ha)⟩, fun j => ?_, fun l hx => h.sub l (by simp at hx; exact hx.1)⟩
  by_cases hj : j = k
  · subst hj
    have := h.sub _ hl
    simp [this, Lit.sameKey]
  · have hj2 : ¬ ((j : Int) = (k : Int)) := by omega
    simp [h.mem j, hj, hj2, Lit.sameKey]
theorem sorted_nat : ∀ {L K : List Nat}, L.Perm K → K.Pairwise (· < ·) → (L.map fun n : Nat => (n : Int)).mergeSort (fun x y => decide (x ≤ y)) = K.map fun n : Nat => (n : Int) := by
  intro L K hp hs
  have tr : ∀ a b c : Int, decide (a ≤ b) = true → decide (b ≤ c) = true → decide (a ≤ c) = true := fun a b c h1 h2 => by simp only [decide_eq_true_eq] at *; omega
  have tot : ∀ a b : Int, (decide (a ≤ b) || decide (b ≤ a)) = true := fun a b => by simp only [Bool.or_eq_true, decide_eq_true_eq]; omega
  refine List.Perm.eq_of_pairwise (le := fun a b : Int => decide (a ≤ b) = true) (fun a b _ _ h1 h2 => ?_) (List.pairwise_mergeSort tr tot _) ?_ ((List.mergeSort_perm _ _).trans (hp.map _))
  · simp only [decide_eq_true_eq] at h1 h2
    omega
  · exact List.pairwise_map.2 (hs.imp fun {a b} h => by simp only [decide_eq_true_eq]; omega)
theorem CollI.done {D : DataW Value} {left : Lit → Bool} {L : List Nat} {lim : Nat} {f : Nat → Option Value} (h : CollI D left L) (hl : ∀ l, left l = false) (hD : NRead lim D f) : (L.map fun n : Nat => (n : Int)).mergeSort (fun x y => decide (x ≤ y)) = (nkeys f lim).map fun n : Nat => (n : Int) := by
  refine sorted_nat ?_ (nkeys_sorted f lim)
  refine (List.perm_ext_iff_of_nodup h.nodup (nkeys_nodup f lim)).2 fun k => ?_
  rw [h.mem k, mem_nkeys, (hD.at_ k).1]
  constructor
  · rintro ⟨h1, -⟩
    refine ⟨?_, h1⟩
    obtain ⟨j, hj, e⟩ := hD.below_ (l := .int .i64 k) (by rw [(hD.at_ k).1]; exact h1)
    simp only [Lit.int.injEq, true_and] at e
    omega
  · rintro ⟨-, h1⟩
    exact ⟨h1, hl _⟩
theorem CollI.len {D : DataW Value} {left : Lit → Bool} {L : List Nat} {lim : Nat} {f : Nat → Option Value} (h : CollI D left L) (hD : NRead lim D f) : L.length ≤ lim := by
  have hs : ∀ k ∈ L, k ∈ nkeys f lim := fun k hk => by
    have h1 := ((h.mem k).1 hk).1
    obtain ⟨j, hj, e⟩ := hD.below_ h1
    simp only [Lit.int.injEq, true_and] at e
    rw [(hD.at_ k).1] at h1
    exact mem_nkeys.2 ⟨by omega, h1⟩
  exact Nat.le_trans (h.nodup.length_le_of_subset hs) (nkeys_le f lim)
section
variable {w w' : World} {b r n cnt : Nat} {D : DataW Value} {left : Lit → Bool}
theorem ranges_ne {α : Type} {E : Elem α} {B c : Nat} {A : Option Addr} {L : List α} (h : w.ranges Tryz.prog 3 heldE b r n D left cnt) (ho : EOwn E w B A c L) : ∀ a, A = some a → a.block ≠ r ∧ a.block ≠ b := by
  intro a ha
  obtain ⟨cur, hc⟩ := ho.kind a ha
  obtain ⟨es, clock, since, seen, c0, h1, -, -, -, h2, -⟩ := h
  refine ⟨fun e => ?_, fun e => ?_⟩
  · rw [e, h2] at hc; cases hc
  · rw [e, h1] at hc; cases hc
theorem ranges_append {α : Type} {E : Elem α} {B c : Nat} {A : Option Addr} {L : List α} (h : w.ranges Tryz.prog 3 heldE b r n D left cnt) (ho : EOwn E w B A c L) (hg : w.grownBy w' (A.map (·.block))) : w'.ranges Tryz.prog 3 heldE b r n D left cnt := by
  refine h.kept hg ?_ ?_
  · cases hA : A with
    | none => simp
    | some a => simpa using fun e => ((ranges_ne h ho a hA).2 e.symm)
  · cases hA : A with
    | none => simp
    | some a => simpa using fun e => ((ranges_ne h ho a hA).1 e.symm)
end
section
variable {w : World} {ops : Array Oper} {rest : List Oper} {o : Oper} {a : Act} {Q : Exit → Act → World → Prop} {gm lim : Nat} {f : Nat → Option Value}
theorem wpList_pg_range (hg : o.guard = none) (m : Operand) (hop : o.op = Op.range 116 m) (D : DataW Value) (hm : a.eval m = .map (some gm)) (hown : w.ownsMap Tryz.prog 3 heldE gm lim D)
    (hK : ∀ w', w'.ranges Tryz.prog 3 heldE gm w.heap.size lim D (has D) (Maps.size D) → Below w.heap.size w w' → w'.heap.size = w.heap.size + 1 → wpList Tryz.prog ops Q rest (a.put o.dst (.pointer (some ⟨w.heap.size, 0, none⟩))) w') : wpList Tryz.prog ops Q (o :: rest) a w :=
  wpList_range_own w hg m _ hop 3 56 pgKeyed Tryz.underlying116 heldE gm lim D hm hown fun w' h1 h2 h3 => hK w' h1 ⟨h2.os, h2.tape, h2.output, h2.size, fun k hk => h2.block k hk (by simp)⟩ h3
theorem wpList_pg_next (hg : o.guard = none) (it : Operand) (hop : o.op = Op.next it false) {r cnt : Nat} {D : DataW Value} {left : Lit → Bool} {L : List Nat} (hit : a.eval it = .pointer (some ⟨r, 0, none⟩)) (h : w.ranges Tryz.prog 3 heldE gm r lim D left cnt) (hC : CollI D left L) (hD : NRead lim D f)
    (hDone : (∀ kl, left kl = false) → wpList Tryz.prog ops Q rest (a.put o.dst (.tuple #[.bool false])) w)
    (hMore : ∀ (k : Nat) (c : Value) (w' : World) (left' : Lit → Bool) (cnt' : Nat), CollI D left' (L ++ [k]) → k < lim → w'.ranges Tryz.prog 3 heldE gm r lim D left' cnt' → cnt' < cnt → w.grownBy w' (some r) → (Instr.entry (.pointer (some ⟨r, 0, none⟩))).run Tryz.prog w' = .ok (.tuple #[.int .i64 (k : Int), c]) w' → wpList Tryz.prog ops Q rest (a.put o.dst (.tuple #[.bool true, .int .i64 (k : Int), c])) w') :
    wpList Tryz.prog ops Q (o :: rest) a w := by
  refine wpList_next_ranges w hg it hop 3 pgKeyed heldE (Value.int .i64) id (fun key kl hk => by obtain ⟨x, rfl, _⟩ := Maps.keyOf_int_inv Tryz.underlying3 hk; exact ⟨x, rfl⟩) (fun v y _ => ⟨v, rfl⟩) gm r lim D left cnt hit h (fun _ hl => hDone hl) ?_
  intro x c kl y w' cnt' hk hl hv hat hr hlt hg' hs hen
  obtain ⟨x', ex, rfl, -⟩ := Maps.keyOf_int_inv Tryz.underlying3 hk
  cases ex
  obtain ⟨k, hkl, e⟩ := hD.below_ (hC.sub _ hl)
  simp only [Lit.int.injEq, true_and] at e
  subst e
  exact hMore k c w' _ cnt' (hC.step hl) hkl hr hlt hg' hen
end
end Go.Proofs.YtcfoihihinijlaaGreat
end

section
namespace Go.Proofs.YtcfoihihinijlaaGreat
set_option linter.unusedSimpArgs false
set_option linter.unusedVariables false
open Go.RowKit Go.Shelf Go.Sort
theorem cells_int (L : List Int) : eInt.cells L = L.map (Value.int .i64) := by
  unfold Elem.cells
  induction L with
  | nil => rfl
  | cons x L ih => rw [List.flatMap_cons, ih]; rfl
theorem sortI_any (w : World) (B c : Nat) (A : Option Addr) (zs : List Int) (h : EOwn eInt w B A c zs) (hn : zs.length ≤ 1000000) :
    Calls Tryz.prog 54 #[.slice A zs.length c] w fun e w' => e = .returned (.tuple #[]) ∧ EOwn eInt w' B A c (zs.mergeSort fun x y => decide (x ≤ y)) ∧ w.grownBy w' (A.map (·.block)) := by
  have h0 := h
  rcases h.2 with ⟨hv, hz⟩ | ⟨g, cap, cur, hv, hb, hg, hnc, hcm, hcs, htake⟩
  · simp only [Value.slice.injEq] at hv
    obtain ⟨rfl, -, rfl⟩ := hv
    obtain rfl : zs = [] := List.eq_nil_of_length_eq_zero hz
    refine (AnyM.slices_Sort_int_none laySortI none 0 w).mono ?_
    rintro e w' ⟨rfl, rfl⟩
    refine ⟨rfl, ?_, World.grownBy.refl _ _⟩
    rw [List.mergeSort_nil]
    exact EOwn.nil _ _
  · simp only [Value.slice.injEq] at hv
    obtain ⟨rfl, -, rfl⟩ := hv
    rw [cells_int] at htake
    have hH := holds_of_blockI (w := w) (g := g) (cur := cur) (e := 3) (ss := zs) hg (by simpa [eInt] using htake)
    refine (AnyM.slices_Sort_int laySortI g 0 c zs w hH (Array.getElem?_eq_some_iff.1 hg).1 (by omega)).mono ?_
    rintro e w' ⟨rfl, n, os, rfl⟩
    have hl : (zs.mergeSort fun x y => decide (x ≤ y)).length = zs.length := List.length_mergeSort _
    refine ⟨rfl, ?_, grownBy_sortedI _⟩
    have := ownsRow_sortedI (w := w) (base := B) (g := g) (cap := c) (n := n) (e := 3) (os := os) (cur := cur) (ss := zs) (ts := zs.mergeSort fun x y => decide (x ≤ y)) hl hb hg hnc hcm (by simpa [eInt] using hcs)
    unfold EOwn
    rw [cells_int, hl]
    exact this
end Go.Proofs.YtcfoihihinijlaaGreat
end

section
namespace Go.Proofs.YtcfoihihinijlaaGreat
set_option linter.unusedSimpArgs false
set_option linter.unusedVariables false
open Go.RowKit
set_option maxHeartbeats 1000000 in
theorem most_any (w : World) (log : Int) (h1 : -9223372036854775808 ≤ log) (h2 : log ≤ 9223372036854775807) : Calls Tryz.prog 53 #[.int .i64 log] w fun e w' => e = .returned (.int .i64 (Pag.most log)) ∧ w = w' := by
  by_cases h : log < 3
  · have HE : Hid (Pag.most log = 0) := by show _ = _; unfold Pag.most; rw [if_pos h]
    go_enter Tryz.func53, Tryz.ntmps53
    go_wp2_with fail
    go_ret
    rw [HE.out]
    exact ⟨rfl, rfl⟩
  · by_cases hb : 4096 < log
    · have HE : Hid (Pag.most log = 4062) := by show _ = _; unfold Pag.most; rw [if_neg h, show min log 4096 = 4096 from by omega]; rfl
      have HMN : Hid (min log 4096 = 4096) := by show _ = _; omega
      go_enter Tryz.func53, Tryz.ntmps53
      go_wp2_with fail
      go_ret
      rw [HE.out]
      refine ⟨?_, rfl⟩
      show Ending.returned (.int .i64 (((min log 4096 - 2) * 512 - 16) / 516)) = _
      rw [HMN.out]
      all_goals rfl
    · have HE : Hid (Pag.most log = ((log - 2) * 512 - 16) / 516) := by show _ = _; unfold Pag.most; rw [if_neg h, show min log 4096 = log from by omega]
      have HMN : Hid (min log 4096 = log) := by show _ = _; omega
      go_enter Tryz.func53, Tryz.ntmps53
      go_wp2_with fail
      go_ret
      rw [HE.out]
      refine ⟨?_, rfl⟩
      show Ending.returned (.int .i64 (((min log 4096 - 2) * 512 - 16) / 516)) = _
      rw [HMN.out]
      all_goals rfl
set_option maxHeartbeats 1000000 in
theorem rmost_any (w : World) (log : Int) (h1 : -9223372036854775808 ≤ log) (h2 : log ≤ 9223372036854775807) : Calls Tryz.prog 48 #[.int .i64 log] w fun e w' => e = .returned (.int .i64 (Pag.most log)) ∧ w = w' := by
  by_cases h : log < 3
  · have HE : Hid (Pag.most log = 0) := by show _ = _; unfold Pag.most; rw [if_pos h]
    go_enter Tryz.func48, Tryz.ntmps48
    go_wp2_with fail
    go_ret
    rw [HE.out]
    exact ⟨rfl, rfl⟩
  · by_cases hb : 4096 < log
    · have HE : Hid (Pag.most log = 4062) := by show _ = _; unfold Pag.most; rw [if_neg h, show min log 4096 = 4096 from by omega]; rfl
      have HMN : Hid (min log 4096 = 4096) := by show _ = _; omega
      go_enter Tryz.func48, Tryz.ntmps48
      go_wp2_with fail
      go_ret
      rw [HE.out]
      refine ⟨?_, rfl⟩
      show Ending.returned (.int .i64 (((min log 4096 - 2) * 512 - 16) / 516)) = _
      rw [HMN.out]
      all_goals rfl
    · have HE : Hid (Pag.most log = ((log - 2) * 512 - 16) / 516) := by show _ = _; unfold Pag.most; rw [if_neg h, show min log 4096 = log from by omega]
      have HMN : Hid (min log 4096 = log) := by show _ = _; omega
      go_enter Tryz.func48, Tryz.ntmps48
      go_wp2_with fail
      go_ret
      rw [HE.out]
      refine ⟨?_, rfl⟩
      show Ending.returned (.int .i64 (((min log 4096 - 2) * 512 - 16) / 516)) = _
      rw [HMN.out]
      all_goals rfl
end Go.Proofs.YtcfoihihinijlaaGreat
end

section
namespace Go.Proofs.YtcfoihihinijlaaGreat
set_option linter.unusedSimpArgs false
set_option linter.unusedVariables false
open Go.RowKit
theorem frames_take (ps : List Part) (i : Nat) (h : i < ps.length) : Wal.frames ((ps.take (i + 1)).map (·.l)) = Wal.frames ((ps.take i).map (·.l)) ++ Wal.frame ps[i].l := by
  rw [List.take_succ_eq_append_getElem h, List.map_append, Wal.frames_append]
  simp [Wal.frames]
theorem frames_le (ps : List Part) (i : Nat) (h : i < ps.length) : (Wal.frames ((ps.take i).map (·.l))).length + ps[i].l.length + 5 ≤ (Wal.frames (ps.map (·.l))).length := by
  have e : ps = ps.take (i + 1) ++ ps.drop (i + 1) := (List.take_append_drop _ _).symm
  have h1 : (Wal.frames (ps.map (·.l))).length = (Wal.frames ((ps.take (i + 1)).map (·.l))).length + (Wal.frames ((ps.drop (i + 1)).map (·.l))).length := by
    rw [← List.length_append, ← Wal.frames_append, ← List.map_append, ← e]
  rw [frames_take ps i h, List.length_append] at h1
  have := (Wal.frame_length ps[i].l).1
  omega
theorem frames_many : ∀ (L : List (List UInt8)), L.length ≤ (Wal.frames L).length
  | [] => Nat.le_refl _
  | s :: L => by
    have := frames_many L
    have h := (Wal.frame_length s).1
    rw [Wal.frames_cons, List.length_append, List.length_cons]
    omega
theorem pad_copy (all : List UInt8) (i : Nat) : ((all.drop (i * 512)).take (List.replicate 512 (0 : UInt8)).length) ++ (List.replicate 512 (0 : UInt8)).drop ((all.drop (i * 512)).take (List.replicate 512 (0 : UInt8)).length).length = padB all i := by
  rw [List.length_replicate, List.drop_replicate]
  rfl
set_option maxRecDepth 100000 in
set_option maxHeartbeats 4000000 in
theorem wadd_any (w0 w : World) (k : KB) (g n : Nat) (d : DS) (l : LS) (H : WL w0 w k g d l n) (hn : n + 1010 < 1000000) (A : Option Addr) (c : Nat) (ps : List Part) (hr : ERow ePart w A ps) (hp : ∀ p ∈ ps, p.ok w) (hps : ps.length ≤ 1000000) :
    Calls Tryz.prog 60 #[.pointer (some ⟨g, 0, none⟩), .slice A ps.length c] w (ChangeOk w0 w k g (n + 1010) (d.add l (ps.map (·.l)))) := by
  have H0 := Lib.hid H
  have HBR := Lib.hid (wbroken_any w _ k g l H.log)
  have hsq := H.log.good.seq
  have hrm := H.log.good.room
  have hdl := H.log.good.data
  have HW := Lib.hid (seq_wrap hsq)
  obtain ⟨A0, c0, hc, hc2, hbx, hdc, -⟩ := H.log.cells
  have HCL := Lib.hid (clone_any w A0 c0 l.data hbx.row (by omega))
  have HRP := Lib.hid (And.intro hr hp)
  have HSQ := Lib.hid hsq
  have HD : Hid (d.add l (ps.map (·.l)) = if l.broken = true then ⟨d, l, 3⟩ else if ps.map (·.l) = [] then ⟨d, l, 0⟩
    else if l.room < (l.data ++ Wal.frames (ps.map (·.l))).length ∨ l.seq = Wal.last62 then ⟨d, l, 40⟩ else d.addW l (l.data ++ Wal.frames (ps.map (·.l))) (ps.map (·.l)).length) := rfl
  clear H hsq hr hp hbx
  rcases Classical.em (l.broken = true) with hb | hb
  · rw [if_pos hb] at HD
    rw [hb] at HBR
    clear hb
    go_enter Tryz.func60, Tryz.ntmps60
    go_wp2_with fail
    refine HBR.out.mono ?_
    rintro e w1 ⟨rfl, rfl⟩
    go_wp2_with fail
    go_ret
    exact change_ok HD.out (H0.out.more (by omega)) (Keeps.refl _ _)
  have hb0 : l.broken = false := by simpa using hb
  rw [if_neg hb] at HD
  rw [hb0] at HBR
  clear hb hb0
  rcases Nat.eq_zero_or_pos ps.length with hp0 | hp0
  · obtain rfl := List.eq_nil_of_length_eq_zero hp0
    have HE : Hid (d.add l (([] : List Part).map (·.l)) = ⟨d, l, 0⟩) := by have := HD.out; simp only [List.map_nil, if_true] at this ⊢; exact this
    clear HD
    go_enter Tryz.func60, Tryz.ntmps60
    go_wp2_with fail
    refine HBR.out.mono ?_
    rintro e w1 ⟨rfl, rfl⟩
    go_wp2_with fail
    go_ret
    exact change_ok HE.out (H0.out.more (by omega)) (Keeps.refl _ _)
  have hpz : ((ps.length : Int) == 0) = false := by rw [beq_eq_false_iff_ne]; omega
  rw [if_neg (by intro h; have := congrArg List.length h; rw [List.length_map, List.length_nil] at this; omega)] at HD
  go_enter Tryz.func60, Tryz.ntmps60
  go_wp2_with fail
  refine HBR.out.mono ?_
  rintro e w1 ⟨rfl, rfl⟩
  go_wp2_with fail
  refine HCL.out.mono ?_
  rintro e w1 ⟨A1, c1, rfl, ho1, hb1⟩
  have H1 := Lib.hid (And.intro ho1 hb1)
  clear HBR HCL ho1 hb1
  go_wp2_with fail
  clear hc hc2
  go_loopw [5, 25] (fun av iv wq => ∃ (i : Nat) (all : List UInt8) (Aa : Option Addr) (ca : Nat), i ≤ ps.length ∧ iv = .int .i64 (i : Nat) ∧ av = .slice Aa all.length ca ∧ all.length ≤ l.room + 14 ∧ Hid (all = l.data ++ Wal.frames ((ps.take i).map (·.l)) ∧ BOwn wq w.heap.size Aa ca all ∧ Below w.heap.size w wq)) (fun _ iv _ => ps.length - (intOf iv).toNat)
  case atStart => exact ⟨0, l.data, A1, c1, Nat.zero_le _, rfl, rfl, by omega, by simp [Wal.frames], H1.out⟩
  case round =>
    obtain ⟨i, all, Aa, ca, hi, rfl, rfl, hal, HJ⟩ := hrel
    clear H1
    have HWQ := Lib.hid (H0.out.below HJ.out.2.2)
    obtain ⟨A2, c2, hc, hc2, -⟩ := HWQ.out.log.cells
    rcases Nat.lt_or_ge i ps.length with hlt | hge
    · obtain ⟨b, o, rfl, hb, hcp⟩ := (HRP.out.1.below HJ.out.2.2).at_ hlt
      have hce := hcp 0 _ rfl
      rw [show (i * ePart.sz + 0) = i from Nat.mul_one i] at hce
      have HOK := Lib.hid (HRP.out.2 ps[i] (List.getElem_mem hlt))
      have HFT := Lib.hid (frames_take ps i hlt)
      have HFL := Lib.hid (frames_le ps i hlt)
      have hii : (i : Int) < (ps.length : Int) := by omega
      generalize ps[i] = p at hce HOK HFT HFL
      obtain ⟨pA, pc, pl⟩ := p
      simp only [Part.v] at hce
      simp only at HFL HFT
      have hpl := HOK.out.2
      simp only at hpl
      clear hcp
      rcases Int.lt_or_le ((l.room : Int) - (all.length : Int)) (pl.length : Int) with hbig | hbig
      · have hlong : l.room < (l.data ++ Wal.frames (ps.map (·.l))).length := by
          have h1 := HFL.out
          have h2 := congrArg List.length HJ.out.1
          rw [List.length_append] at h2 ⊢
          omega
        have HE : Hid (d.add l (ps.map (·.l)) = ⟨d, l, 40⟩) := by show _ = _; rw [HD.out, if_pos (.inl hlong)]
        clear HD hlong
        go_wp2_with fail
        go_ret
        exact change_ok HE.out (HWQ.out.more (by omega)) (Keeps.of_below HJ.out.2.2)
      · have HFR := Lib.hid (frame_any wr pA pc pl (HOK.out.1.below HJ.out.2.2) (by omega))
        go_wp2_with fail
        refine HFR.out.mono ?_
        rintro e w5 ⟨A5, c5, rfl, ho5, hb5⟩
        have H5 := Lib.hid (And.intro (HJ.out.2.1.below hb5) (And.intro (HJ.out.2.2.trans (hb5.mono HJ.out.2.2.size)) ho5.row))
        have hfl2 := (Wal.frame_length pl).2
        clear ho5 hb5 HFR hc hc2
        go_wp2_with (at_builtin; refine wpList_append_bytes rfl (.tmp 39) (.tmp 41) rfl _ rfl H5.out.1 rfl _ rfl H5.out.2.2 rfl (by omega) H5.out.2.1.size ?_; intro A6 c6 w6 ho6 hb6 _ _)
        go_roundw
        case rel => exact ⟨i + 1, all ++ Wal.frame pl, A6, c6, by omega, by go_num, by rw [List.length_append], by rw [List.length_append]; omega, by rw [HFT.out, HJ.out.1, List.append_assoc], ho6, H5.out.2.1.trans hb6⟩
        case measure => simp [intOf]; omega
    · obtain rfl : i = ps.length := by omega
      have hii : ¬ ((ps.length : Nat) : Int) < ((ps.length : Nat) : Int) := by omega
      have hall : all = l.data ++ Wal.frames (ps.map (·.l)) := by rw [HJ.out.1, List.take_length]
      rw [← hall] at HD
      have HMN : Hid (l.count + ps.length ≤ all.length) := by
        show _ ≤ _
        have h1 := HWQ.out.log.good.count
        have h2 := frames_many (ps.map (·.l))
        rw [hall, List.length_append]
        simp at h2
        omega
      have HA := Lib.hid hall
      clear hall hge hi
      rcases Nat.lt_or_ge l.room all.length with hlong | hfit
      · have HE : Hid (d.add l (ps.map (·.l)) = ⟨d, l, 40⟩) := by show _ = _; rw [HD.out, if_pos (.inl hlong)]
        clear HD
        go_wp2_with fail
        go_ret
        exact change_ok HE.out (HWQ.out.more (by omega)) (Keeps.of_below HJ.out.2.2)
      · rcases Classical.em (l.seq = Wal.last62) with hs | hs
        · have hs1 : ((l.seq : Int) == 4611686018427387904) = true := by rw [hs]; decide
          have HE : Hid (d.add l (ps.map (·.l)) = ⟨d, l, 40⟩) := by show _ = _; rw [HD.out, if_pos (.inr hs)]
          clear HD hs
          go_wp2_with fail
          go_ret
          exact change_ok HE.out (HWQ.out.more (by omega)) (Keeps.of_below HJ.out.2.2)
        · have hs1 := seq_last hs
          rw [if_neg (by rintro (h | h); omega; exact hs h)] at HD
          have HS := Lib.hid (seq_next HSQ.out hs)
          clear hs
          have hi0 : l.data.length / 512 ≤ 998 := by omega
          have HI0 := Lib.hid hi0
          have HPM : Hid ((ps.map (·.l)).length = ps.length) := List.length_map ..
          rw [HPM.out] at HD
          have HU : Hid (d.addW l all ps.length = d.addW l all ps.length) := rfl
          clear hi0 HU
          go_wp2_with fail
          have HB0 := Lib.hid HJ.out.2
          clear hc hc2 HJ
          obtain ⟨wo, rfl⟩ : ∃ wo : World, wo = wr := ⟨_, rfl⟩
          go_loopw [8] (fun iv wq => ∃ (i : Nat) (dd : DS), iv = .int .i64 (i : Nat) ∧ i ≤ 999 ∧ Hid (DS.lay l.at_ all all.length (l.data.length / 512) d = DS.lay l.at_ all (all.length + l.data.length / 512 - i) i dd ∧ l.data.length / 512 ≤ i ∧ WL w0 wq k g dd l (n + i) ∧ BOwn wq w.heap.size Aa ca all ∧ Keeps w wq (ownL k g))) (fun iv _ => 1000 - (intOf iv).toNat)
          case atStart =>
            refine ⟨l.data.length / 512, d, by simp, by have := HI0.out; omega, ?_, Nat.le_refl _, HWQ.out.more (by omega), HB0.out.1, Keeps.of_below HB0.out.2⟩
            rw [Nat.add_sub_cancel]
          case round =>
            obtain ⟨i, dd, rfl, hi, HJ⟩ := hrel
            obtain ⟨A2, c2, hc, hc2, -⟩ := HJ.out.2.2.1.log.cells
            rcases Nat.lt_or_ge (i * 512) all.length with hlt | hge
            · have hii : (i : Int) * 512 < (all.length : Int) := by omega
              obtain ⟨f, hf⟩ : ∃ f, all.length + l.data.length / 512 - i = f + 1 := ⟨all.length + l.data.length / 512 - i - 1, by have := HJ.out.2.1; omega⟩
              have HF := Lib.hid hf
              have HLS := HJ.out.1
              rw [hf, lay_step _ _ _ _ _ hlt] at HLS
              have HLY := Lib.hid HLS
              obtain ⟨As, cs, hsl, hrs, hcs1, hcs2, -⟩ := cut_l HJ.out.2.2.2.1.row ca ((i : Int) * 512) (i * 512) (by omega) (by omega) HJ.out.2.2.2.1.cap
              have HRS := Lib.hid hrs
              have hdl2 : (all.drop (i * 512)).length = all.length - i * 512 := List.length_drop ..
              have HDL := Lib.hid hdl2
              clear hf HLS hrs hdl2
              have HZ : Hid ((List.replicate 512 (0 : UInt8)).length = 512) := List.length_replicate
              go_wp2_with (first
                | (at_make; refine wpList_make_zeros rfl (.const (.int .i64 512)) (.const (.int .i64 512)) rfl _ _ _ _ 512 rfl rfl rfl rfl (by decide) (Nat.le_refl _) ?_; intro w5 ho5 hb5; have HRS5 := Lib.hid (And.intro ho5 (And.intro hb5 (HRS.out.below hb5))); clear ho5 hb5)
                | (refine wpList_copy_bytes0 (o := ⟨some 77, _, _, _, _, _⟩) rfl (.tmp 72) (.tmp 76) rfl 512 _ rfl rfl HZ.out.symm HDL.out.symm HRS5.out.1 HRS5.out.2.2 ?_; intro w6 ho6 hg6))
              rw [pad_copy] at ho6
              have H6 : Hid (BOwn w6 wr.heap.size (some ⟨wr.heap.size, 0, none⟩) 512 (padB all i) ∧ Below wr.heap.size wr w6) := ⟨ho6, HRS5.out.2.1.grown hg6 HRS5.out.2.1.size (fun k hk => by simp at hk; omega)⟩
              clear ho6 hg6 HRS5 HRS hsl hc hc2
              have HW6 := Lib.hid (And.intro (HJ.out.2.2.1.below H6.out.2.drewR) (And.intro (HJ.out.2.2.2.1.below H6.out.2.drewR) (HJ.out.2.2.2.2.then H6.out.2.drewR)))
              obtain ⟨A2, c2, hc, hc2, -⟩ := HW6.out.1.log.cells
              have hwr := HW6.out.1.dl.write (by omega) ((l.at_ : Int) + 2 + (i : Int)) (some ⟨wr.heap.size, 0, none⟩) 512 (padB all i) H6.out.1.row.drew
              rw [padB_length] at hwr
              have HWR := Lib.hid hwr
              have hix : ((l.at_ + 2 + i : Nat) : Int) = (l.at_ : Int) + 2 + (i : Int) := by omega
              rw [hix] at HLY
              have hat := HW6.out.1.log.good.at_
              clear hwr hix
              generalize dd.write ((l.at_ : Int) + 2 + (i : Int)) (padB all i) = r at HWR HLY
              obtain ⟨d7, e7⟩ := r
              refine wp_region_plan (.take 0 (.take 1 (.take 2 (.take 3 (.take 4 (.take 5 (.take 6 (.take 7 (.take 8 (.take 9 (.take 10 (.take 11 (.run 12 [] (.take 13 .fin)))))))))))))) (by kernel_rfl) (by kernel_rfl) (by kernel_rfl) (by kernel_rfl) ?_
              simp only [walk, again, sel, List.getElem?_toArray, List.getElem?_cons_zero, List.getElem?_cons_succ]
              repeat ((with_reducible intro Z hZ); go_wp2_with (fail))
              refine HWR.out.mono ?_
              rintro e w7 ⟨rfl, hL7, hK7⟩
              have HW7 := Lib.hid (And.intro (HW6.out.1.disk hL7 hK7) (And.intro (HW6.out.2.1.keptK hK7 (fun a ha hs => by
                have h1 := (HW6.out.2.1.block a ha).1
                have h2 := H0.out.dl.own_lt _ hs
                omega)) (HW6.out.2.2.trans hK7.own2)))
              clear hL7 hK7 hc hc2 HW6 HWR
              obtain ⟨A2, c2, hc, hc2, -⟩ := HW7.out.1.log.cells
              rcases Classical.em (e7 = 0) with he | he
              · subst he
                rw [if_neg (by simp)] at HLY
                go_wp2_with fail
                repeat ((with_reducible intro Z hZ); go_wp2_with (fail))
                go_wp2_with fail
                go_roundw
                case rel =>
                  refine ⟨i + 1, d7, by go_num, by omega, ?_, by have := HJ.out.2.1; omega, HW7.out.1, HW7.out.2⟩
                  rw [HLY.out]
                  show DS.lay l.at_ all f (i + 1) d7 = _
                  congr 1
                  have := HF.out; omega
                case measure => simp [intOf]; omega
              · have he1 : (e7 != 0) = true := by simpa using he
                rw [if_pos he] at HLY
                have HE : Hid (d.add l (ps.map (·.l)) = ⟨d7, { l with broken := true }, e7⟩) := by
                  show _ = _
                  rw [HD.out]
                  unfold DS.addW
                  rw [HLY.out, if_pos he]
                clear he HD HLY
                go_wp2_with fail
                repeat ((with_reducible intro Z hZ); go_wp2_with (fail))
                go_wp2_with fail
                go_ret
                exact change_ok HE.out ((HW7.out.1.store (grown_store _ _ _ _) HW7.out.1.log.setBroken).more (by omega)) (keeps_store HW7.out.2.2 (grown_store _ _ _ _))
            · have hii : ¬ (i : Int) * 512 < (all.length : Int) := by omega
              have HLD : Hid (DS.lay l.at_ all all.length (l.data.length / 512) d = (dd, 0)) := by show _ = _; rw [HJ.out.1, lay_done _ _ _ _ _ hge]
              have HF := Lib.hid (HJ.out.2.2.1.dl.flush (by omega))
              have HD2 : Hid (d.add l (ps.map (·.l)) = if dd.flush.2 ≠ 0 then ⟨dd.flush.1, { l with broken := true }, dd.flush.2⟩
                  else if (dd.flush.1.head l.at_ (l.seq + 1) all.length).2 ≠ 0 then ⟨(dd.flush.1.head l.at_ (l.seq + 1) all.length).1, { l with broken := true }, (dd.flush.1.head l.at_ (l.seq + 1) all.length).2⟩
                  else ⟨(dd.flush.1.head l.at_ (l.seq + 1) all.length).1, { l with seq := l.seq + 1, data := all, count := l.count + ps.length }, 0⟩) := by
                show _ = _
                rw [HD.out]
                unfold DS.addW
                rw [HLD.out, if_neg (by simp)]
              clear HD HLD hge
              generalize dd.flush = r at HF HD2
              obtain ⟨d5, e5⟩ := r
              go_wp2_with fail
              refine HF.out.mono ?_
              rintro e w7 ⟨rfl, hL7, hK7⟩
              have HW7 := Lib.hid (And.intro (HJ.out.2.2.1.disk hL7 hK7) (And.intro (HJ.out.2.2.2.1.keptK hK7 (fun a ha hs => by
                have h1 := (HJ.out.2.2.2.1.block a ha).1
                have h2 := H0.out.dl.own_lt _ hs
                omega)) (HJ.out.2.2.2.2.trans hK7.own2)))
              clear hL7 hK7 hc hc2 HF
              obtain ⟨A2, c2, hc, hc2, -⟩ := HW7.out.1.log.cells
              rcases Classical.em (e5 = 0) with he | he
              · subst he
                rw [if_neg (by simp)] at HD2
                have hh := head_any w0 w7 k g (n + i + 1) d5 l HW7.out.1 (by omega) (l.seq + 1) all.length HS.out (by omega)
                unfold HeadOk at hh
                simp only [Int.natCast_add, Int.natCast_one] at hh
                have HH := Lib.hid hh
                clear hh
                generalize d5.head l.at_ (l.seq + 1) all.length = r at HH HD2
                obtain ⟨d8, e8⟩ := r
                have hw := HW.out
                go_wp2_with fail
                refine HH.out.mono ?_
                rintro e w8 ⟨rfl, hw8, hk8⟩
                have HW8 := Lib.hid (And.intro hw8 (And.intro (HW7.out.2.1.keptK hk8 (fun a ha hs => by
                  have h1 := (HW7.out.2.1.block a ha).1
                  rcases hs with hs | hs
                  · have h2 := H0.out.dl.own_lt _ hs
                    omega
                  · obtain ⟨cs9, hb9⟩ := H0.out.log.blk
                    have h2 := hb9.lt
                    omega)) (HW7.out.2.2.trans hk8)))
                clear hw8 hk8 hc hc2 HH
                have hcl : l.count + ps.length ≤ 1000000 := by have := HMN.out; omega
                obtain ⟨A2, c2, hc, hc2, -⟩ := HW8.out.1.log.cells
                unfold LS.headed at HW8
                rcases Classical.em (e8 = 0) with he | he
                · subst he
                  rw [if_neg (by simp)] at HD2
                  rw [if_pos rfl] at HW8
                  simp only [LS.headed, if_true] at hc
                  go_wp2_with fail
                  go_ret
                  have hcp := HW8.out.2.1.cap
                  have hcm : ca ≤ maxLen := by
                    rcases HW8.out.2.1.form with ⟨-, rfl, -⟩ | ⟨_, -, -, -, -, h⟩
                    · exact Nat.zero_le _
                    · exact h
                  have hBX : BRowX k.own w8 Aa all := BRowX.own HW8.out.2.1 H0.out.dl.own_lt
                  have hset := HW8.out.1.log.setData (A := Aa) (c := ca) (b := all) (n := l.count + ps.length) hBX hcp hcm (by show all.length ≤ l.room; omega) HMN.out
                  refine change_ok HD2.out ((HW8.out.1.store ((grown_store _ _ _ _).set_ ⟨g, 5, none⟩ rfl _) hset).more (by omega)) (keeps_store HW8.out.2.2 ((grown_store _ _ _ _).set_ ⟨g, 5, none⟩ rfl _))
                · have he1 : (e8 != 0) = true := by simpa using he
                  rw [if_pos he] at HD2
                  rw [if_neg he] at HW8
                  have HE := Lib.hid he
                  clear he
                  go_wp2_with fail
                  go_ret
                  exact change_ok HD2.out (HW8.out.1.more (by omega)) HW8.out.2.2
              · have he1 : (e5 != 0) = true := by simpa using he
                rw [if_pos he] at HD2
                clear he
                go_wp2_with fail
                go_ret
                exact change_ok HD2.out ((HW7.out.1.store (grown_store _ _ _ _) HW7.out.1.log.setBroken).more (by omega)) (keeps_store HW7.out.2.2 (grown_store _ _ _ _))
end Go.Proofs.YtcfoihihinijlaaGreat
end

section
namespace Go.Proofs.YtcfoihihinijlaaGreat
set_option linter.unusedSimpArgs false
set_option linter.unusedVariables false
open Go.RowKit Go.Maps
section
variable {w0 w w' : World} {G : GB} {n : Nat} {g : Pag.PG} {T : TB} {t : Pag.TX}
theorem PagAt.dropTx (h : PagAt w0 w G n g) : PagAt w0 (w.setCell ⟨G.gp, 8, none⟩ (.pointer none)) { G with tx := none } n { g with tx := none } :=
  h.pg (h.blk.set 8 _) (grown_store _ _ _ _) ⟨rfl, rfl, rfl, rfl⟩ ⟨rfl, rfl, rfl⟩ (h.pool.set fun i hi => .inl (G.xs_noTx hi)) h.rest.noTx
theorem PagAt.txAt (h : PagAt w0 w G n g) (hT : G.tx = some T) (hg : g.tx = some t) : TxAt w w0.heap.size (g.pages + 1) T t := by
  rcases h.split with ⟨q1, -⟩ | ⟨T', t', q1, q2, ht, -⟩
  · rw [hT] at q1; cases q1
  · rw [hT] at q1; rw [hg] at q2
    cases q1; cases q2
    exact ht
end
def recTo (m : Pag.Pgs) (K : List Nat) (i : Nat) : List UInt8 := Wire.num K.length ++ (K.take i).flatMap fun n => Wire.num n ++ Wire.text ((m n).getD [])
theorem recTo_all (m : Pag.Pgs) (K : List Nat) : recTo m K K.length = Pag.record m K := by unfold recTo Pag.record; rw [List.take_length]
theorem recTo_step (m : Pag.Pgs) (K : List Nat) (i : Nat) (hi : i < K.length) : recTo m K (i + 1) = recTo m K i ++ (Wire.num K[i] ++ Wire.text ((m K[i]).getD [])) := by
  unfold recTo
  rw [List.take_add_one, List.getElem?_eq_getElem hi, List.flatMap_append, List.append_assoc]
  simp
theorem recTo_le (m : Pag.Pgs) (K : List Nat) (i : Nat) : (recTo m K i).length ≤ (Pag.record m K).length := by
  have h : Pag.record m K = recTo m K i ++ (K.drop i).flatMap fun n => Wire.num n ++ Wire.text ((m n).getD []) := by
    unfold Pag.record recTo
    rw [List.append_assoc, ← List.flatMap_append, List.take_append_drop]
  rw [h, List.length_append]
  omega
theorem in_own {w : World} {B c : Nat} {A : Option Addr} {L : List Int} (h : EOwn eInt w B A c L) {i : Nat} (hi : i < L.length) : ∃ a, A = some ⟨a, 0, none⟩ ∧ w.cell? ⟨a, i, none⟩ = some (.int .i64 L[i]) := by
  rcases h.form with ⟨-, -, rfl⟩ | ⟨a, rfl, -⟩
  · cases hi
  · have h1 := h.cell (j := i) (k := 0) hi (v := .int .i64 L[i]) rfl
    simp only [eInt, Nat.mul_one, Nat.add_zero] at h1
    exact ⟨a, rfl, h1⟩
theorem wpList_str_of {w : World} {ops : Array Oper} {rest : List Oper} {o : Oper} {a : Act} {Q : Exit → Act → World → Prop} (hgd : o.guard = none) (x : Operand) (hop : o.op = .convert 56 9 x) {A : Option Addr} {l : List UInt8} {n c : Nat} (hx : a.eval x = .slice A n c) (hn : n = l.length) (hr : BRow w A l)
    (h : wpList Tryz.prog ops Q rest (a.put o.dst (txt l)) w) : wpList Tryz.prog ops Q (o :: rest) a w := by
  subst hn
  have e := run_string_bytes w (c := c) hr
  refine wpList_plain hgd fun _ hK => ?_
  unfold Oper.wp execOp
  simp only [hop, hx, Sem.run_bind, e, Result.andThen_ok, Sem.run_pure]
  exact hK _ _ h
section
variable {w0 w w' : World} {G : GB} {n n' : Nat} {g : Pag.PG} {T : TB} {t : Pag.TX}
theorem PagAt.keepTx (h : PagAt w0 w G n g) (hT : G.tx = some T) (hg : g.tx = some t) :
    PagAt w0 (((w.setCell ⟨G.gp, 5, none⟩ (.slice T.au t.m.used.length T.cu)).setCell ⟨G.gp, 6, none⟩ (.slice T.ar t.m.root.length T.cr)).setCell ⟨G.gp, 8, none⟩ (.pointer none)) { G with au := T.au, cu := T.cu, ar := T.ar, cr := T.cr, tx := none } n { g with sure := t.m, tx := none } := by
  have ht := h.txAt hT hg
  have hr := h.rest
  refine h.pg (((h.blk.set 5 _).set 6 _).set 8 _) (((grown_store _ _ _ _).set_ ⟨G.gp, 6, none⟩ rfl _).set_ ⟨G.gp, 8, none⟩ rfl _) ⟨rfl, rfl, rfl, rfl⟩ ⟨rfl, rfl, rfl⟩ (h.pool.set fun i hi => ?_) ⟨ht.used, ht.ul, ht.root, ht.rl, hr.map, hr.mlo, hr.glo, hr.m1, trivial, hr.pages, hr.blocks⟩
  rcases hi with hi | ⟨U, a, hU, -⟩
  · exact .inl (.inl hi)
  · cases hU
end
theorem laid_cons (m : Pag.Pgs) (n : Nat) (L : List Nat) (o : Pag.Pgs) : Pag.laid m (n :: L) o = Pag.laid m L (Pag.put o n ((m n).getD [])) := rfl
theorem coll_more {wr w6 wd : World} {gm r lim cnt cnt' c : Nat} {D : DataW Value} {left left' : Lit → Bool} {A : Option Addr} {L : List Int} (ho : EOwn eInt wr r A c L) (hr : wr.ranges Tryz.prog 3 heldE gm r lim D left cnt) (hb : Below r wd wr) (hr' : w6.ranges Tryz.prog 3 heldE gm r lim D left' cnt') (hg : wr.grownBy w6 (some r)) (k : Int) :
    EOwn eInt (w6.alloc (.cells #[.int .i64 k] 3)) r A c L ∧ ERow eInt (w6.alloc (.cells #[.int .i64 k] 3)) (some ⟨w6.heap.size, 0, none⟩) [k] ∧ (w6.alloc (.cells #[.int .i64 k] 3)).ranges Tryz.prog 3 heldE gm r lim D left' cnt' ∧ Below r wd (w6.alloc (.cells #[.int .i64 k] 3)) ∧ r ≤ (w6.alloc (.cells #[.int .i64 k] 3)).heap.size := by
  have hlt := hr.lt
  have h1 : EOwn eInt w6 r A c L := ho.keep fun a ha => hg.block _ (ho.block a ha).2 (by simpa using (ranges_ne hr ho a ha).1)
  have hba : Below w6.heap.size w6 (w6.alloc (.cells #[.int .i64 k] 3)) := (Below.refl _ _).alloc (Nat.le_refl _) _
  have h2 : Below r wd w6 := hb.grown hg (Nat.le_of_lt hlt) (fun j hj => by cases hj; exact Nat.le_refl _)
  have h3 : r ≤ w6.heap.size := Nat.le_trans (Nat.le_of_lt hlt) hg.size
  refine ⟨h1.below hba, ERow.lit eInt w6 k #[.int .i64 k] rfl w6.heap.size rfl, hr'.alloc _, h2.trans (hba.mono h3), ?_⟩
  simp
  omega
theorem TxAt.len {w : World} {B lim : Nat} {T : TB} {t : Pag.TX} (h : TxAt w B lim T t) : (nkeys (fun i => (T.F i).map Bp.v) lim).length = (Pag.keys t.pages lim).length := by rw [h.map.keys]
theorem GB.own_F {G : GB} {T : TB} (hT : G.tx = some T) {F F2 : Nat → Option Bp} {i : Nat} (h : ({ G with F := F, tx := some { T with F := F2 } } : GB).own i) : G.own i := by
  rcases h with h | h | h | h | ⟨T', hT', h⟩ | h
  · exact .inl h
  · exact .inr (.inl h)
  · exact .inr (.inr (.inl h))
  · exact .inr (.inr (.inr (.inl h)))
  · cases hT'
    exact .inr (.inr (.inr (.inr (.inl ⟨T, hT, h⟩))))
  · exact .inr (.inr (.inr (.inr (.inr h))))
end Go.Proofs.YtcfoihihinijlaaGreat
end

section
namespace Go.Proofs.YtcfoihihinijlaaGreat
set_option linter.unusedSimpArgs false
set_option linter.unusedVariables false
open Go.RowKit Go.Maps Go.MapKept Go.ChangeMaps Go.WideShapes
section
variable {w : World} {ops : Array Oper} {rest : List Oper} {o : Oper} {a : Act} {Q : Exit → Act → World → Prop} {gm lim : Nat} {f : Nat → Option Value}
theorem wpList_pg_clear (hg : o.guard = none) (m : Operand) (hop : o.op = Op.call { callee := Callee.builtin Builtin.clear, args := #[m], argTypes := #[116] }) (hm : a.eval m = .map (some gm)) (h : NMap w gm lim f)
    (hK : ∀ w', NMap w' gm lim (fun _ => none) → w.grownBy w' (some gm) → wpList Tryz.prog ops Q rest (a.put o.dst (.tuple #[])) w') : wpList Tryz.prog ops Q (o :: rest) a w := by
  obtain ⟨D, ⟨es, clock, hb, F, hs, rfl⟩, hD⟩ := h
  refine wpList_plain hg fun K' hK' => ?_
  have hrun : (Builtin.clear_ #[116] o.type #[.map (some gm)]).run Tryz.prog w = .ok (.tuple #[]) (setBlock w gm (.map #[] clock)) := by
    simp [Builtin.clear_, run_underlying Tryz.underlying116, Go.MapKept.run_getObj_map hb, Go.MapKept.run_setObj_map _ hb, Result.andThen]
    rfl
  unfold Oper.wp
  simp [execOp, hop, resolve, invoke, builtin, hm, hrun, Result.andThen]
  refine hK' _ _ (hK _ ⟨.map [], ⟨#[], clock, heap_setBlock_same hb _, ⟨by simp, MapKept.stamped_empty clock, by simp⟩, by simp, rfl⟩, ⟨⟨[], rfl, List.Pairwise.nil, fun p hp => by cases hp⟩, fun k => ⟨rfl, fun v z h => by cases h⟩⟩⟩ ?_)
  exact (World.mapTurned.grown ⟨es, clock, #[], clock, hb, rfl⟩)
end
section
variable {w0 w w' : World} {G : GB} {n : Nat} {g : Pag.PG}
theorem PagAt.cleared (h : PagAt w0 w G n g) (hm : NMap w' G.gm (g.pages + 1) (fun _ => none)) (hg : w.grownBy w' (some G.gm)) : PagAt w0 w' { G with F := fun _ => none } n { g with over := Pag.none_ } :=
  h.overMap ⟨hm, fun i p hp => (by cases hp), fun i => rfl⟩ hg
end
def RetSt (w0 w : World) (G : GB) (n : Nat) (R : Pag.PG × Int) (e : Ending) (w' : World) : Prop :=
  RetPg w0 w G n R.1 R.2 e w' ∧ (R.2 = 0 → ∃ F, PagAt w0 w' { G with F := F } n R.1 ∧ Keeps w w' G.own)
theorem layHome_step (blocks : Nat) (m : Pag.Pgs) (k : Nat) (L : List Nat) (d : DS) : Pag.layHome blocks m (k :: L) d = if (d.write (Pag.home blocks k : Nat) ((m k).getD [])).2 ≠ 0 then d.write (Pag.home blocks k : Nat) ((m k).getD []) else Pag.layHome blocks m L (d.write (Pag.home blocks k : Nat) ((m k).getD [])).1 := rfl
set_option maxRecDepth 20000 in
set_option maxHeartbeats 8000000 in
theorem psettle_any (w0 w : World) (G : GB) (n : Nat) (g : Pag.PG) (h : PagAt w0 w G n g) (hn : n + 2000 < 1000000) :
    Calls Tryz.prog 59 #[.pointer (some ⟨G.gp, 0, none⟩)] w (RetSt w0 w G (n + 2000) g.settle) := by
  obtain ⟨K, hK⟩ : ∃ K, Pag.keys g.over (g.pages + 1) = K := ⟨_, rfl⟩
  obtain ⟨R, hR⟩ : ∃ R, g.settle = R := ⟨_, rfl⟩
  obtain ⟨R0, hR0⟩ : ∃ R0, Pag.layHome g.blocks g.over K g.d = R0 := ⟨_, rfl⟩
  have HR : Hid (R = if R0.2 ≠ 0 then (({ g with d := R0.1 } : Pag.PG).fail, R0.2) else if R0.1.flush.2 ≠ 0 then (({ g with d := R0.1.flush.1 } : Pag.PG).fail, R0.1.flush.2) else if (R0.1.flush.1.reset g.l).e ≠ 0 then (({ g with d := (R0.1.flush.1.reset g.l).d, l := (R0.1.flush.1.reset g.l).l } : Pag.PG).fail, (R0.1.flush.1.reset g.l).e) else ({ g with d := (R0.1.flush.1.reset g.l).d, l := (R0.1.flush.1.reset g.l).l, over := Pag.none_ }, 0)) := by
    show _ = _
    rw [← hR]
    unfold Pag.PG.settle
    rw [hK, hR0]
  have HR0 := Lib.hid hR0
  have HK := Lib.hid hK
  have HPG := Lib.hid h.rest.pages
  have HBL := Lib.hid h.rest.blocks
  have H0 := Lib.hid h
  have HM := Lib.hid h.rest.map
  have hkl : K.length ≤ 1601 := by
    rw [← hK, ← h.rest.map.keys]
    exact Nat.le_trans (nkeys_le _ _) (by have := HPG.out; omega)
  have HKL : Hid (nkeys (fun i => (G.F i).map Bp.v) (g.pages + 1) = K) := by show _ = _; rw [h.rest.map.keys, hK]
  rw [hR]
  have hc := h.cells
  obtain ⟨D, hown, hD⟩ := h.rest.map.map
  have HOW := Lib.hid hown
  have HDD := Lib.hid hD
  have HN := Lib.hid hn
  clear h hK hR hR0 hown hD hn
  go_enter Tryz.func59, Tryz.ntmps59
  go_upto_region 2 with fail
  go_upto_region 3 with (refine wpList_pg_range rfl _ rfl D rfl HOW.out ?_; intro we hre hbe hse)
  have H10 : Hid (we.ranges Tryz.prog 3 heldE G.gm w.heap.size (g.pages + 1) D (has D) (Maps.size D) ∧ Below w.heap.size w we) := ⟨hre, hbe⟩
  clear hre hbe hse hc
  obtain ⟨r, hr⟩ : ∃ r, w.heap.size = r := ⟨_, rfl⟩
  have HRR := Lib.hid hr
  rw [hr] at H10 ⊢
  clear hr
  simp only [Act.put, List.setIfInBounds_toArray, List.set_cons_zero, List.set_cons_succ]
  go_loopw [3] (fun ov wr => ∃ (L : List Nat) (A : Option Addr) (c : Nat) (left : Lit → Bool) (cnt : Nat), L.length ≤ 1601 ∧ ov = .slice A L.length c ∧ Hid (EOwn eInt wr r A c (L.map fun n : Nat => (n : Int)) ∧ wr.ranges Tryz.prog 3 heldE G.gm r (g.pages + 1) D left cnt ∧ CollI D left L ∧ Below r w wr)) (fun _ wr => wr.rangeLeft G.gm r)
  case atStart => exact ⟨[], none, 0, _, _, Nat.zero_le _, rfl, EOwn.nil _ _, H10.out.1, CollI.start D, H10.out.2⟩
  case round =>
    obtain ⟨L, A, c, left, cnt, hll, rfl, HJ⟩ := hrel
    have hmeas := HJ.out.2.1.left_eq
    have HLM : Hid (L.length = (L.map fun n : Nat => (n : Int)).length) := by show _ = _; simp
    go_wp2_with (first
      | (refine wpList_pg_next rfl _ rfl rfl HJ.out.2.1 HJ.out.2.2.1 HDD.out ?_ ?_; intro hl0; rotate_left; intro k cv w6 left' cnt' hC' hkl hr' hlt' hg' hen; have H6 := Lib.hid (coll_more HJ.out.1 HJ.out.2.1 HJ.out.2.2.2 hr' hg' (k : Int)); clear hr' hg')
      | (at_builtin; refine wpList_append_elems eInt rfl (.tmp 18) (.tmp 20) rfl _ rfl H6.out.1 HLM.out _ rfl H6.out.2.1 rfl (by rw [← HLM.out]; simp; omega) H6.out.2.2.2.2 ?_; intro A7 c7 w7 ho7 hb7 hg7 _; have H7 := Lib.hid (And.intro ho7 (And.intro (ranges_append H6.out.2.2.1 H6.out.1 hg7) (H6.out.2.2.2.1.trans hb7))); clear ho7 hb7 hg7))
    case roundEnd =>
      refine ⟨⟨L ++ [k], A7, c7, left', cnt', ?_, by simp, ?_⟩, ?_⟩
      · exact Nat.le_trans (hC'.len HDD.out) (by have := HPG.out; omega)
      · refine ⟨?_, H7.out.2.1, hC', H7.out.2.2⟩
        have := H7.out.1
        rw [List.map_append]
        exact this
      · rw [H7.out.2.1.left_eq, hmeas]
        exact hlt'
    have hsorted := HJ.out.2.2.1.done hl0 HDD.out
    rw [HKL.out] at hsorted
    have hll2 : (L.map fun n : Nat => (n : Int)).length ≤ 1000000 := by simp; omega
    have HSI := Lib.hid (sortI_any wr r c A _ HJ.out.1 hll2)
    have hLK : L.length = K.length := by
      have := congrArg List.length hsorted
      rw [List.length_mergeSort, List.length_map, List.length_map] at this
      exact this
    rw [hsorted, ← HLM.out, hLK] at HSI
    rw [hLK]
    have HBW := Lib.hid HJ.out.2.2.2
    clear hsorted hll2 hLK hl0 hmeas hll HJ HLM
    refine HSI.out.mono ?_
    rintro e w7 ⟨rfl, ho7, hg7⟩
    have hb7 : Below w.heap.size w w7 := by
      rw [HRR.out]
      refine HBW.out.grown hg7 (HRR.out ▸ HBW.out.size) fun j hj => ?_
      cases hA : A with
      | none => rw [hA] at hj; cases hj
      | some a =>
        rw [hA] at hj
        cases hj
        exact (ho7.block a hA).1
    have H7 := Lib.hid (And.intro (H0.out.below hb7) (And.intro ho7 (show Keeps w w7 G.own from Keeps.of_below hb7)))
    clear ho7 hg7 HSI HBW hb7
    go_wp2_with fail
    go_loopw [26] (fun iv wr => ∃ (i : Nat) (d : DS), i ≤ K.length ∧ iv = .int .i64 (i : Int) ∧ Hid (Pag.layHome g.blocks g.over (K.drop i) d = R0 ∧ PagAt w0 wr G (n + i) { g with d := d } ∧ EOwn eInt wr r A c (K.map fun n : Nat => (n : Int)) ∧ Keeps w wr G.own)) (fun iv _ => K.length - (intOf iv).toNat)
    case atStart => exact ⟨0, g.d, Nat.zero_le _, by go_num, HR0.out, H7.out⟩
    case round =>
      obtain ⟨i, d, hi, rfl, HJ⟩ := hrel
      by_cases hlt : i < K.length
      · have hii : (i : Int) < (K.length : Int) := by omega
        obtain ⟨aa, ha', hcell⟩ := in_own HJ.out.2.2.1 (i := i) (by rw [List.length_map]; exact hlt)
        rw [List.getElem_map] at hcell
        have hmem : K[i] ∈ K := List.getElem_mem hlt
        have hdrop := List.drop_eq_getElem_cons hlt
        obtain ⟨kk, hkk⟩ : ∃ kk, K[i] = kk := ⟨_, rfl⟩
        rw [hkk] at hcell hmem hdrop
        have hst := layHome_step g.blocks g.over kk (K.drop (i + 1)) d
        rw [← hdrop, HJ.out.1] at hst
        have hbd : Below wr.heap.size wr wr.drew := (Below.refl _ _).drew
        have HPW := Lib.hid (HJ.out.2.1.below hbd)
        have hc := HPW.out.cells
        have hkn : kk < g.pages + 1 ∧ (g.over kk).isSome = true := by
          have h1 := HK.out
          rw [← h1] at hmem
          exact Pag.mem_keys.1 hmem
        obtain ⟨bs, hbs⟩ := Option.isSome_iff_exists.1 hkn.2
        obtain ⟨p, hF, hl, hrow, h512⟩ := HPW.out.rest.map.has_ hbs
        have HF : Hid (((G.F kk).map Bp.v).getD (.slice none 0 0) = .slice p.a p.l.length p.c) := by show _ = _; rw [hF]; rfl
        have hgd : (g.over kk).getD [] = p.l := by rw [hbs, hl]; rfl
        rw [hgd] at hst
        have HO := Lib.hid HPW.out.rest.map.map
        have HKB : Hid (kk < 9223372036854775808) := by show kk < _; have := HPG.out; omega
        have HRW := Lib.hid hrow.row
        have HST := Lib.hid hst
        have HPH := Lib.hid (phome_any w0 wr.drew G _ _ HPW.out kk (by have := HPG.out; omega))
        have HWR := Lib.hid (HPW.out.wl.dl.write (by have := HN.out; omega) (Pag.home g.blocks kk : Nat) p.a p.c p.l hrow.row)
        obtain ⟨WR, hWR⟩ : ∃ WR, d.write (Pag.home g.blocks kk : Nat) p.l = WR := ⟨_, rfl⟩
        rw [hWR] at HST HWR
        have HBD := Lib.hid hbd
        have HLT := Lib.hid hlt
        clear hWR hmem hkk hkn hbs hF hl hrow h512 hdrop hst hgd hbd
        subst ha'
        go_upto_region 10 with fail
        refine wp_region_plan (.take 0 (.take 1 (.take 2 (.take 3 (.take 4 (.take 5 (.take 7 (.take 8 (.take 9 (.take 10 (.take 11 (.take 12 (.run 6 [0, 1, 2, 3, 7, 8, 9, 10, 11, 12] (.run 13 [] (.take 14 .fin))))))))))))))) (by kernel_rfl) (by kernel_rfl) (by kernel_rfl) (by kernel_rfl) ?_
        repeat' (first | (refine hZ _ _ ?_; clear hZ) | (refine hZ _ ?_; clear hZ) | (refine hZ ?_; clear hZ) | rw [again_nil] | rw [walk_fin] | ((first | rw [walk_take] | rw [walk_run] | rw [again_cons]); intro Z hZ; simp only [sel, List.getElem?_toArray, List.getElem?_cons_zero, List.getElem?_cons_succ]; go_wp2_with (refine wpList_pg_at rfl _ _ rfl rfl HO.out kk rfl HKB.out (zero_bytes _) _ HF.out ?_)))
        refine HPH.out.mono ?_
        rintro e w9 ⟨rfl, rfl⟩
        clear HPH
        go_wp2_with fail
        repeat' (first | (refine hZ _ _ ?_; clear hZ) | (refine hZ _ ?_; clear hZ) | (refine hZ ?_; clear hZ) | rw [again_nil] | rw [walk_fin] | ((first | rw [walk_take] | rw [walk_run] | rw [again_cons]); intro Z hZ; simp only [sel, List.getElem?_toArray, List.getElem?_cons_zero, List.getElem?_cons_succ]; go_wp2_with (refine wpList_pg_at rfl _ _ rfl rfl HO.out kk rfl HKB.out (zero_bytes _) _ HF.out ?_)))
        refine HWR.out.mono ?_
        rintro e w10 ⟨rfl, hdl, hk10⟩
        have H11 := Lib.hid (And.intro (HPW.out.disk hdl hk10 (Nat.le_succ _)) (And.intro ((HJ.out.2.2.1.below HBD.out).offK hk10 (HPW.out.wl.dl.at_.off (T := 3) (by decide) (by decide))) ((HJ.out.2.2.2.then HBD.out).trans (hk10.mono fun i hi => .inl (.inl hi)))))
        clear hdl hk10 HWR HO HPW HRW
        replace hc := H11.out.1.cells
        go_wp2_with fail
        repeat' (first | (refine hZ _ _ ?_; clear hZ) | (refine hZ _ ?_; clear hZ) | (refine hZ ?_; clear hZ) | rw [again_nil] | rw [walk_fin] | ((first | rw [walk_take] | rw [walk_run] | rw [again_cons]); intro Z hZ; simp only [sel, List.getElem?_toArray, List.getElem?_cons_zero, List.getElem?_cons_succ]; go_wp2_with (fail)))
        by_cases he : WR.2 = 0
        · have hst := HST.out
          rw [if_neg (by simp [he])] at hst
          have HST2 := Lib.hid hst
          have he0 : (WR.2 != 0) = false := by simp [he]
          clear he hst HST
          go_wp2_with fail
          go_roundw
          case rel => exact ⟨i + 1, WR.1, HLT.out, by go_num, HST2.out.symm, H11.out⟩
          case measure => simp [intOf]; omega
        · have hst := HST.out
          rw [if_pos he] at hst
          have hr2 := HR.out
          rw [hst, if_pos he] at hr2
          have HR2 := Lib.hid hr2
          have he2 := code_ne he
          have HNE := Lib.hid he
          have HPF := Lib.hid (pfail_any w0 w10 _ _ _ H11.out.1 WR.2)
          clear he hst hr2 HST HR
          go_wp2_with fail
          refine HPF.out.mono ?_
          rintro e w11 ⟨G', rfl, e1, e2, hp11, ho11, hk11⟩
          have H12 := Lib.hid (And.intro e1 (And.intro e2 (And.intro hp11 (And.intro ho11 hk11))))
          clear e1 e2 hp11 ho11 hk11
          go_wp2_with fail
          go_ret
          rw [HR2.out]
          obtain ⟨e1, e2, hp11, ho11, hk11⟩ := H12.out
          refine ⟨⟨G', rfl, e1, e2, hp11.more (by have := HLT.out; omega), fun i hi => ?_, H11.out.2.2.trans hk11⟩, fun h => absurd h HNE.out⟩
          rcases ho11 i hi with h | h
          · exact .inl h
          · exact .inr (Nat.le_trans H11.out.2.2.size h)
      · have hii : ¬ (i : Int) < (K.length : Int) := by omega
        obtain rfl : i = K.length := by omega
        have hr0 := HJ.out.1
        rw [List.drop_length] at hr0
        have hr0' : R0 = (d, 0) := hr0.symm
        have hr2 := HR.out
        rw [hr0', if_neg (by simp)] at hr2
        have HR2 := Lib.hid hr2
        have hc := HJ.out.2.1.cells
        have HFL := Lib.hid (HJ.out.2.1.wl.dl.flush (by have := HN.out; omega))
        obtain ⟨fl, hfl⟩ : ∃ fl, d.flush = fl := ⟨_, rfl⟩
        rw [hfl] at HR2 HFL
        clear hr0 hr0' hr2 HR hfl
        go_wp2_with fail
        refine HFL.out.mono ?_
        rintro e w10 ⟨rfl, hdl, hk10⟩
        have H11 := Lib.hid (And.intro (HJ.out.2.1.disk hdl hk10 (Nat.le_succ _)) (HJ.out.2.2.2.trans (hk10.mono fun i hi => .inl (.inl hi))))
        clear hdl hk10 HFL
        replace hc := H11.out.1.cells
        by_cases he : fl.2 = 0
        · have hr2 := HR2.out
          rw [if_neg (by simp [he])] at hr2
          have HR3 := Lib.hid hr2
          rw [he]
          have HRS := Lib.hid (wreset_any w0 w10 G.k G.gl _ _ _ H11.out.1.wl (by have := HN.out; omega))
          obtain ⟨rs, hrs⟩ : ∃ rs, fl.1.reset g.l = rs := ⟨_, rfl⟩
          rw [hrs] at HR3 HRS
          clear he hr2 HR2 hrs
          go_wp2_with fail
          refine HRS.out.mono ?_
          rintro e w12 ⟨rfl, hwl, hk12⟩
          have H13 := Lib.hid (And.intro (H11.out.1.log hwl hk12 (Nat.le_add_right _ 2)) (H11.out.2.trans (hk12.mono fun i hi => .inl hi)))
          clear hwl hk12 HRS
          replace hc := H13.out.1.cells
          by_cases he : rs.e = 0
          · have hr2 := HR3.out
            rw [if_neg (by simp [he])] at hr2
            have HR4 := Lib.hid hr2
            have HO := Lib.hid H13.out.1.rest.map.map
            rw [he]
            clear he hr2 HR3
            go_wp2_with (refine wpList_pg_clear rfl _ rfl rfl HO.out ?_; intro w14 hm14 hg14; have H14 := Lib.hid (And.intro hm14 hg14); clear hm14 hg14)
            go_ret
            rw [HR4.out]
            have hp14 := (H13.out.1.cleared H14.out.1 H14.out.2).more (n' := n + 2000) (by omega)
            have hk14 : Keeps w w14 G.own := H13.out.2.trans ((Keeps.of_grown H14.out.2).mono fun i hi => .inr (.inr (.inr (.inl hi))))
            exact ⟨⟨{ G with F := fun _ => none }, rfl, rfl, rfl, hp14, fun i hi => .inl hi, hk14⟩, fun _ => ⟨_, hp14, hk14⟩⟩
          · have hr2 := HR3.out
            rw [if_pos he] at hr2
            have HR4 := Lib.hid hr2
            have he2 := code_ne he
            have HNE := Lib.hid he
            have HPF := Lib.hid (pfail_any w0 w12 _ _ _ H13.out.1 rs.e)
            clear he hr2 HR3
            go_wp2_with fail
            refine HPF.out.mono ?_
            rintro e w13 ⟨G', rfl, e1, e2, hp11, ho11, hk11⟩
            have H12 := Lib.hid (And.intro e1 (And.intro e2 (And.intro hp11 (And.intro ho11 hk11))))
            clear e1 e2 hp11 ho11 hk11
            go_wp2_with fail
            go_ret
            rw [HR4.out]
            obtain ⟨e1, e2, hp11, ho11, hk11⟩ := H12.out
            refine ⟨⟨G', rfl, e1, e2, hp11.more (by omega), fun i hi => ?_, H13.out.2.trans hk11⟩, fun h => absurd h HNE.out⟩
            rcases ho11 i hi with h | h
            · exact .inl h
            · exact .inr (Nat.le_trans H13.out.2.size h)
        · have hr2 := HR2.out
          rw [if_pos he] at hr2
          have HR4 := Lib.hid hr2
          have he2 := code_ne he
          have HNE := Lib.hid he
          have he3 : (fl.2 == 0) = false := by simpa using he
          have HPF := Lib.hid (pfail_any w0 w10 _ _ _ H11.out.1 fl.2)
          clear he hr2 HR2
          go_wp2_with fail
          refine HPF.out.mono ?_
          rintro e w13 ⟨G', rfl, e1, e2, hp11, ho11, hk11⟩
          have H12 := Lib.hid (And.intro e1 (And.intro e2 (And.intro hp11 (And.intro ho11 hk11))))
          clear e1 e2 hp11 ho11 hk11
          go_wp2_with fail
          go_ret
          rw [HR4.out]
          obtain ⟨e1, e2, hp11, ho11, hk11⟩ := H12.out
          refine ⟨⟨G', rfl, e1, e2, hp11.more (by omega), fun i hi => ?_, H11.out.2.trans hk11⟩, fun h => absurd h HNE.out⟩
          rcases ho11 i hi with h | h
          · exact .inl h
          · exact .inr (Nat.le_trans H11.out.2.size h)
end Go.Proofs.YtcfoihihinijlaaGreat
end

