/-
  Texts of a proof, one behind the other (each with its own head).
-/
import Derived.Test.YtjdffhonljhpcaaGreatPartFpfhikefi
import Derived.Maps.OwnOps
section
/-
  The contract of plan.Choose.
-/
namespace Go.Proofs.YtjdffhonljhpcaaGreat
set_option linter.unusedSimpArgs false
set_option linter.unusedVariables false
open Go.RowKit

namespace Pn
/-- Is there a plan? -/
def chOk (x : PX) (n : Nat) : Bool := may x && n == x.T.length && decide (x.defs.length ≤ 64) && x.wh.all (fun y => !(asks x y).2) && (!orders x || (sorts x).2)
/-- Where the columns of table i begin, or all end. -/
def bAt (x : PX) (i : Nat) : Int := if i < x.T.length then b x i else x.W
theorem b0_of_may {x : PX} (h : may x = true) : b x 0 = 0 := by
  unfold may may0 at h
  simp only [Bool.and_eq_true, decide_eq_true_eq] at h
  exact h.1.1.2
theorem bAt_succ {x : PX} (hs : Sh x) {i : Nat} (hi : i < x.T.length) : bAt x (i + 1) = endN x i := by
  unfold bAt endN
  rw [hs.bl]
end Pn
theorem all8 {n : Nat} (h1 : 1 ≤ n) (h4 : n ≤ 4) : ((2 : Int) ^ n % 256 - 1) % 256 = ((2 ^ n - 1 : Nat) : Int) := by
  have h : n = 1 ∨ n = 2 ∨ n = 3 ∨ n = 4 := by omega
  rcases h with rfl | rfl | rfl | rfl <;> rfl
/-- What Choose answers. -/
def RetCh (w : World) (p : Qp) (n : Nat) (e : Ending) (w' : World) : Prop :=
  ∃ (m : Pm) (er : Int), e = .returned (.tuple #[m.v, .int .i64 er]) ∧ Below w.heap.size w w' ∧ (PlNz m.e → PmRd w' m) ∧ ((Pn.chOk p.x n = true ∧ er = 0 ∧ m.e = Pn.choose p.x) ∨ (Pn.chOk p.x n = false ∧ er = 1 ∧ m = Pm.nil))
theorem load_pm {w : World} {g : Nat} {t : TypeId} {p : Pm} (h : Blk w g t p.cells) : (loadVar 44 ⟨g, 0, none⟩).run Tryz.prog w = .ok p.v w := by
  obtain ⟨h0, h1, h2, h3, h4, h5, h6, h7, h8⟩ := Blk.pm h
  unfold Pm.v Pm.cells
  go_simp
theorem Blk.wchs {w : World} {g : Nat} {t : TypeId} {p : Qp} {a b c d : Value} (h : Blk w g t (p.cells ++ (a :: [b, c, d]))) : w.cell? ⟨g, 9, none⟩ = some a ∧ w.cell? ⟨g, 10, none⟩ = some b ∧ w.cell? ⟨g, 11, none⟩ = some c ∧ w.cell? ⟨g, 12, none⟩ = some d ∧ w.frozen? ⟨g, 10, none⟩ = false ∧ w.frozen? ⟨g, 11, none⟩ = false ∧ w.frozen? ⟨g, 12, none⟩ = false :=
  ⟨h.cell 9, h.cell 10, h.cell 11, h.cell 12, h.free 10, h.free 11, h.free 12⟩
set_option maxRecDepth 20000 in
set_option maxHeartbeats 8000000 in
theorem plchoose_any (w : World) (p : Qp) (hp : QpIn w p) (hwl : p.x.wh.length ≤ 1000) (sa : Option Addr) (S : List Stt) (sc : Nat) (hS : SttsIn w sa S) (da : Option Addr) (dc : Nat) (hd : DfsIn w da p.x.defs) (hrc : Pn.fillT p.x 0 S ([], []) = (p.x.rows, p.x.cols)) :
    Calls Tryz.prog 11 #[p.v, .slice sa S.length sc, .slice da p.x.defs.length dc] w (RetCh w p S.length) := by
  have HP := Lib.hid hp
  have HS := Lib.hid hS
  have HD := Lib.hid hd
  have HRC := Lib.hid hrc
  have htl := hp.tl
  have hSl := hS.len
  have hdl := hd.len
  clear hp hS hd hrc
  go_enter Tryz.func11, Tryz.ntmps11
  go_upto_region 1 with (first | (refine wpList_box_qp rfl (.tmp 0) rfl p rfl ?_; intro W1 hb1 hz1 hB1) | (refine wpList_alloc_pm rfl rfl ?_; intro W2 hb2 hz2 hB2))
  obtain ⟨g3, hg3⟩ : ∃ g, w.heap.size = g := ⟨_, rfl⟩
  obtain ⟨g6, hg6⟩ : ∃ g, W1.heap.size = g := ⟨_, rfl⟩
  have HQ2 : Hid (Blk W2 g3 36 p.cells) := by rw [← hg3]; exact hb1.below hB2
  have HO2 : Hid (Blk W2 g6 44 Pm.nil.cells) := by rw [← hg6]; exact hb2
  have HB2 : Hid (Below w.heap.size w W2) := hB1.then hB2
  have HN : Hid (w.heap.size ≤ g3 ∧ g3 < g6) := by show _ ∧ _; omega
  rw [hg3, hg6]
  clear hb1 hz1 hB1 hb2 hz2 hB2 hg3 hg6
  obtain ⟨c0, -⟩ := Blk.qp HQ2.out
  have hz9 := pm_zero
  go_wp2_with (refine wpList_load_qp0 rfl (.tmp 3) rfl g3 rfl HQ2.out ?_)
  refine (plmay_any W2 p (HP.out.below HB2.out)).mono ?_
  rintro e W3 ⟨rfl, hB3⟩
  have HQ3 := Lib.hid (HQ2.out.below hB3)
  have HO3 := Lib.hid (HO2.out.below hB3)
  have HB3 := Lib.hid (HB2.out.then hB3)
  clear hB3 c0 HQ2 HO2 HB2
  obtain ⟨c0, -⟩ := Blk.qp HQ3.out
  obtain ⟨my, hmy⟩ : ∃ b, Pn.may p.x = b := ⟨_, rfl⟩
  have HMY := Lib.hid hmy
  rw [hmy]
  clear hmy
  cases my with
  | false =>
    have HER : Hid (Pn.chOk p.x S.length = false) := by show _ = _; unfold Pn.chOk; rw [HMY.out]; rfl
    go_wp2_with (refine wpList_store_pm rfl rfl (.tmp 6) (.tmp 39) rfl g6 rfl Pm.nil rfl HO3.out ?_; intro WE hbe hge)
    refine ret_mem2 rfl rfl rfl rfl (load_pm hbe) ⟨Pm.nil, 1, rfl, below_of_grown HB3.out hge (by have := HN.out; omega) HB3.out.size, fun _ => PmRd.nil, .inr ⟨HER.out, rfl, rfl⟩⟩
  | true =>
    by_cases hST : S.length = p.x.T.length
    · have hSi : (S.length : Int) = (p.x.T.length : Int) := by omega
      by_cases h64 : p.x.defs.length ≤ 64
      · have h6i : ¬ 64 < (p.x.defs.length : Int) := by omega
        go_upto_region 3 with fail
        clear c0
        obtain ⟨c0, c1, c2, c3, c4, c5, c6, c7, c8⟩ := Blk.qp9 (Blk.qp90 HQ3.out)
        go_upto_region 4 with fail
        clear c0 c1 c2 c3 c4 c5 c6 c7 c8
        obtain ⟨g8, hg8⟩ : ∃ g, W3.heap.size = g := ⟨_, rfl⟩
        generalize hW4 : World.alloc W3 (.cells _ _) = W4
        obtain ⟨ba4, hz4, hB4⟩ := fresh1 hW4
        clear hW4
        rw [hg8] at ba4 ⊢
        have HC4 : Hid (ChSt w W4 p da p.x.defs.length dc g3 g6 g8 none [] 0 none [] 0 none [] 0) :=
          ⟨HQ3.out.below hB4, HO3.out.below hB4, ba4, EOwn.nil _ _, EOwn.nil _ _, EOwn.nil _ _, HB3.out.then hB4, HN.out.1, by have := HN.out; omega, by rw [← hg8]; exact HB3.out.size, by have := HQ3.out.lt; have := HN.out; omega, by have := HO3.out.lt; omega⟩
        clear ba4 hz4 hB4 hg8 HQ3 HO3 HB3
        have HSH := Lib.hid (Pn.sh_of_may HMY.out)
        have ht4 := HSH.out.t4
        have HB0 : Hid (Pn.b p.x 0 = 0) := Pn.b0_of_may HMY.out
        go_upto_region 5 with fail
        go_loopw [46] (fun iv wr => ∃ (i : Nat), i ≤ p.x.T.length ∧ iv = .int .i64 (i : Int) ∧ Hid (∃ ra rows rc ca cols cc, Pn.fillT p.x i (S.drop i) (rows, cols) = (p.x.rows, p.x.cols) ∧ ((rows.length : Nat) : Int) = Pn.bAt p.x i ∧ cols.length = rows.length ∧ (∀ y ∈ cols, ERow eI64 w y.a y.b ∧ y.b.length ≤ 1000) ∧ ChSt w wr p da p.x.defs.length dc g3 g6 g8 none [] 0 ra rows rc ca cols cc)) (fun iv _ => p.x.T.length - (intOf iv).toNat)
        case atStart =>
          refine ⟨0, Nat.zero_le _, by go_num, none, [], 0, none, [], 0, ?_, ?_, rfl, ?_, HC4.out⟩
          · rw [List.drop_zero]; exact HRC.out
          · unfold Pn.bAt
            rw [if_pos (show 0 < p.x.T.length from HSH.out.t1), HB0.out]
            rfl
          · intro y hy; cases hy
        case round =>
          obtain ⟨i, hi, rfl, HJ⟩ := hrel
          obtain ⟨ra, rows, rc, ca, cols, cc, hfill, hrl, hcl, hcy, hC⟩ := HJ.out
          have HF := Lib.hid hfill
          have HRL := Lib.hid hrl
          have HCL := Lib.hid hcl
          have HCY := Lib.hid hcy
          have HC := Lib.hid hC
          clear HJ hfill hrl hcl hcy hC
          by_cases hlt : i < p.x.T.length
          · have hii : (i : Int) < (p.x.T.length : Int) := by omega
            have hltS : i < S.length := by omega
            have hltB : i < p.x.B.length := by have := HSH.out.bl; omega
            obtain ⟨t, ht⟩ : ∃ t, S[i] = t := ⟨_, rfl⟩
            have HT := Lib.hid ht
            have HTC : Hid (CsIn w t.a t.cols) := by show CsIn _ _ _; rw [← ht]; exact HS.out.c _ (List.getElem_mem hltS)
            have HRW := Lib.hid (HS.out.r.below HC.out.b)
            obtain ⟨sb, so, rfl, -⟩ := HRW.out.range hltS
            clear ht
            go_upto_region 7 with (first
              | (refine wpList_load_stt_at rfl (.tmp 49) rfl HRW.out hltS t HT.out rfl ?_)
              | (refine wpList_alloc_stt rfl rfl ?_; intro W5 hb5 hz5 hB5)
              | (refine wpList_store_stt rfl rfl (.tmp 10) (.tmp 50) rfl _ rfl t rfl hb5 ?_; intro W6 hb6 hg6))
            have hB6 : Below wr.heap.size wr W6 := below_of_grown hB5 hg6 (Nat.le_refl _) (by omega)
            obtain ⟨gt, hgt⟩ : ∃ gt, wr.heap.size = gt := ⟨_, rfl⟩
            rw [hgt] at hb6 ⊢
            have HTB := Lib.hid hb6
            have HC6 := Lib.hid (HC.out.below hB6)
            have HGT : Hid (gt ≠ g8) := by show _ ≠ _; rw [← hgt]; have := HC.out.x.lt; omega
            clear hb5 hz5 hB5 hb6 hg6 hB6 hgt HRW HC
            obtain ⟨-, c1, -⟩ := Blk.qp HC6.out.q
            obtain ⟨bb, bo, hba, -, hbc⟩ := int_at (HP.out.b.below HC6.out.b) hltB
            rw [Pn.b_get hltB] at hbc
            rw [hba] at c1
            clear hba
            go_upto_region 8 with fail
            clear c1 hbc
            obtain ⟨b1, hb1⟩ : ∃ b1, Pn.b p.x i = b1 := ⟨_, rfl⟩
            obtain ⟨e1, he1⟩ : ∃ e1, Pn.endN p.x i = e1 := ⟨_, rfl⟩
            have hlt1 := HSH.out.lt i hlt
            rw [hb1, he1] at hlt1
            have HB1 := Lib.hid hb1
            have HE1 := Lib.hid he1
            obtain ⟨D1, hD1⟩ : ∃ D1, Pn.fillC p.x t i (e1 - b1).toNat b1 (rows, cols) = D1 := ⟨_, rfl⟩
            have HD1 := Lib.hid hD1
            have HF1 : Hid (Pn.fillT p.x (i + 1) (S.drop (i + 1)) D1 = (p.x.rows, p.x.cols)) := by
              show _ = _
              rw [← HF.out, List.drop_eq_getElem_cons hltS, HT.out, ← hD1, ← he1, ← hb1]
              rfl
            have hrl1 : (rows.length : Int) = b1 := by rw [HRL.out]; unfold Pn.bAt; rw [if_pos hlt, hb1]
            rw [hb1]
            clear hb1 he1 hD1
            go_loopw [11] (fun av wx => ∃ (x : Int), av = .int .i64 x ∧ b1 ≤ x ∧ x ≤ e1 ∧ Hid (∃ ra rows rc ca cols cc, Pn.fillC p.x t i (e1 - x).toNat x (rows, cols) = D1 ∧ ((rows.length : Nat) : Int) = x ∧ cols.length = rows.length ∧ (∀ y ∈ cols, ERow eI64 w y.a y.b ∧ y.b.length ≤ 1000) ∧ ChSt w wx p da p.x.defs.length dc g3 g6 g8 none [] 0 ra rows rc ca cols cc ∧ Blk wx gt 54 t.cells)) (fun av _ => (e1 - intOf av).toNat)
            case atStart => exact ⟨b1, rfl, Int.le_refl _, by omega, ra, rows, rc, ca, cols, cc, HD1.out, hrl1, HCL.out, HCY.out, HC6.out, HTB.out⟩
            case round =>
              obtain ⟨x, rfl, hx1, hx2, HJ⟩ := hrel
              obtain ⟨ra2, rows2, rc2, ca2, cols2, cc2, hfill, hrl2, hcl2, hcy2, hC2, hT2⟩ := HJ.out
              have HFC := Lib.hid hfill
              have HCL2 := Lib.hid hcl2
              have HCY2 := Lib.hid hcy2
              have HC2 := Lib.hid hC2
              have HT2 := Lib.hid hT2
              clear HJ hfill hcl2 hcy2 hC2 hT2
              go_wp2_with (refine wpList_load_qp0 rfl (.tmp 3) rfl g3 rfl HC2.out.q ?_)
              refine (plend_any _ p (HP.out.below HC2.out.b) i (by omega)).mono ?_
              rintro e W7 ⟨rfl, hB7⟩
              have HC7 := Lib.hid (HC2.out.below hB7)
              have HT7 := Lib.hid (HT2.out.below hB7)
              rw [HE1.out]
              clear hB7 HC2 HT2
              by_cases hxe : x < e1
              · go_upto_region 10 with fail
                have hd : Below W7.heap.size W7 W7.drew := (Below.refl _ _).drewR
                have HCD := Lib.hid (HC7.out.below hd)
                have HTD := Lib.hid (HT7.out.below hd)
                obtain ⟨-, -, d11, -⟩ := Blk.wchs HCD.out.x
                obtain ⟨t0, -⟩ := Blk.c2 HTD.out
                have hBL : Below W7.drew.heap.size W7.drew (W7.alloc (.cells #[.int .i64 t.rows] 2)).drew := by show Below W7.drew.heap.size W7.drew (W7.drew.alloc _); exact Below.alloc1 _ _
                have HRL7 : Hid (ERow eI64 (W7.alloc (.cells #[.int .i64 t.rows] 2)).drew (some ⟨W7.heap.size, 0, none⟩) [t.rows]) := ERow.lit eI64 W7.drew t.rows _ rfl _ rfl
                have HCE := Lib.hid (HCD.out.below hBL)
                have HTE := Lib.hid (HTD.out.below hBL)
                obtain ⟨-, -, x11, -⟩ := Blk.wchs HCE.out.x
                clear hd HC7 HT7 hBL HCD HTD
                refine wp_region_plan (.take 0 (.take 1 (.take 2 (.take 3 (.take 4 (.take 5 (.take 6 (.run 7 [0, 1, 2, 3, 4] (.run 8 [0] (.take 9 (.take 10 (.run 11 [] .fin)))))))))))) (by kernel_rfl) (by kernel_rfl) (by kernel_rfl) (by kernel_rfl) ?_
                repeat' (first | (refine hZ _ _ ?_; clear hZ) | (refine hZ _ ?_; clear hZ) | (refine hZ ?_; clear hZ) | rw [again_nil] | rw [walk_fin] | ((first | rw [walk_take] | rw [walk_run] | rw [again_cons]); intro Z hZ; simp only [sel, List.getElem?_toArray, List.getElem?_cons_zero, List.getElem?_cons_succ]; go_wp2_with (at_builtin; refine wpList_append_elems eI64 rfl (.tmp 67) (.tmp 70) rfl rows2.length rfl HCE.out.r rfl 1 rfl HRL7.out rfl (by simp; omega) HCE.out.b.size ?_; intro A8 c8 W8 ho8 hB8 hg8 hx8; obtain ⟨-, -, y11, -, -, z11, -⟩ := Blk.wchs (HCE.out.x.keptO HCE.out.r (by decide) hg8))))
                go_upto_region 11 with fail
                have k1 := HCE.out.addRow ho8 hg8
                have k2 : Blk (W8.setCell ⟨g8, 11, none⟩ (.slice A8 (rows2.length + 1) c8)) gt 54 t.cells := (HTE.out.keptO HCE.out.r (by decide) hg8).grown (grown_store W8 g8 11 (.slice A8 (rows2.length + 1) c8)) (by simp only [ne_eq, Option.some.injEq]; exact HGT.out)
                generalize W8.setCell ⟨g8, 11, none⟩ (.slice A8 (rows2.length + 1) c8) = W9 at k1 k2 ⊢
                have HC9 := Lib.hid k1
                have HT9 := Lib.hid k2
                clear k1 k2 ho8 hB8 hg8 hx8 HCE HTE x11 y11 z11 t0 d11 HRL7
                go_upto_region 12 with (first | (refine wpList_alloc_cs rfl rfl ?_; intro W10 hb10 hz10 hB10))
                have hB10d : Below W9.heap.size W9 W10.drew := hB10.drewR
                obtain ⟨gs, hgs⟩ : ∃ gs, W9.heap.size = gs := ⟨_, rfl⟩
                rw [hgs] at hb10 ⊢
                have HN10 : Hid (gs ≠ g8 ∧ gs ≠ gt) := by show _ ≠ _ ∧ _ ≠ _; rw [← hgs]; have := HC9.out.x.lt; have := HT9.out.lt; omega
                have HG10 := Lib.hid hb10.drew
                have HC10 := Lib.hid (HC9.out.below hB10d)
                have HT10 := Lib.hid (HT9.out.below hB10d)
                have HB910 := Lib.hid hB10d
                have HGS := Lib.hid hgs
                clear hb10 hz10 hB10 hB10d hgs
                obtain ⟨-, c1, -⟩ := Blk.qp HC10.out.q
                obtain ⟨bb, bo, hba, -, hbc⟩ := int_at (HP.out.b.below HC10.out.b) hltB
                rw [Pn.b_get hltB, HB1.out] at hbc
                rw [hba] at c1
                clear hba
                obtain ⟨-, t1, -⟩ := Blk.c2 HT10.out
                have hiB : (i : Int) < (p.x.B.length : Int) := by omega
                have hx24 : e1 ≤ 24 := by omega
                refine wp_region_plan (.take 0 (.take 1 (.take 2 (.take 3 (.take 4 (.take 5 (.take 6 (.take 7 (.take 8 (.take 9 (.take 10 .fin))))))))))) (by kernel_rfl) (by kernel_rfl) (by kernel_rfl) (by kernel_rfl) ?_
                repeat' (first | (refine hZ _ _ ?_; clear hZ) | (refine hZ _ ?_; clear hZ) | (refine hZ ?_; clear hZ) | rw [again_nil] | rw [walk_fin] | ((first | rw [walk_take] | rw [walk_run] | rw [again_cons]); intro Z hZ; simp only [sel, List.getElem?_toArray, List.getElem?_cons_zero, List.getElem?_cons_succ]; go_wp2_with (fail)))
                go_upto_if 84 with fail
                generalize W10.drew = W11 at HG10 HC10 HT10 HB910 c1 hbc t1 ⊢
                obtain ⟨cs, hcs⟩ : ∃ cs, t.cols.getD (x - b1).toNat Cs.nul = cs := ⟨_, rfl⟩
                have HCS := Lib.hid hcs
                clear hcs
                go_cut [80] from 84 to 96 (fun _ wx => Hid (Blk wx gs 51 cs.cells ∧ ChSt w wx p da p.x.defs.length dc g3 g6 g8 none [] 0 A8 (rows2 ++ [t.rows]) c8 ca2 cols2 cc2 ∧ Blk wx gt 54 t.cells))
                case first =>
                  by_cases hin : x - b1 < (t.cols.length : Int)
                  · go_upto_region 13 with fail
                    obtain ⟨k, hk⟩ : ∃ k : Nat, x - b1 = (k : Int) := ⟨(x - b1).toNat, by omega⟩
                    have hkl : k < t.cols.length := by omega
                    have HCK : Hid (t.cols[k] = cs) := by
                      show _ = _
                      rw [← HCS.out, show (x - b1).toNat = k by omega]
                      simp [List.getD, hkl]
                    have hd : Below W11.heap.size W11 W11.drew := (Below.refl _ _).drewR
                    have c1' := cell_later hd c1
                    have hbc' := cell_later hd hbc
                    have t1' := cell_later hd t1
                    have HG11 := Lib.hid (HG10.out.below hd)
                    have HB911 := Lib.hid (HB910.out.then hd)
                    have HRR := Lib.hid (HTC.out.r.below (HC10.out.b.then hd))
                    obtain ⟨ab, ao, hta, -⟩ := HRR.out.range hkl
                    rw [hta] at t1'
                    have HRS : Hid (ERow eCs W11.drew (some ⟨ab, ao, none⟩) t.cols) := by show ERow _ _ _ _; rw [← hta]; exact HRR.out
                    have hxk : wrap64 (x - b1) = (k : Int) := by rw [hk]; exact Ev.wrap_in ⟨by omega, by omega⟩
                    clear hd c1 hbc t1 HRR hta
                    refine wp_region_plan (.take 0 (.take 1 (.take 2 (.take 3 (.take 4 (.take 5 (.take 6 (.take 7 (.take 8 (.take 9 (.take 10 (.run 11 [] .fin)))))))))))) (by kernel_rfl) (by kernel_rfl) (by kernel_rfl) (by kernel_rfl) ?_
                    repeat' (first | (refine hZ _ _ ?_; clear hZ) | (refine hZ _ ?_; clear hZ) | (refine hZ ?_; clear hZ) | rw [again_nil] | rw [walk_fin] | ((first | rw [walk_take] | rw [walk_run] | rw [again_cons]); intro Z hZ; simp only [sel, List.getElem?_toArray, List.getElem?_cons_zero, List.getElem?_cons_succ]; go_wp2_with (first | (refine wpList_load_cs_at rfl (.tmp 94) rfl HRS.out hkl rfl ?_) | (refine wpList_store_cs rfl rfl (.tmp 12) (.tmp 95) rfl gs rfl _ rfl HG11.out ?_; intro W12 hb12 hg12))))
                    have hB12 : Below W9.heap.size W9 W12 := below_of_grown HB911.out hg12 (by have := HGS.out; omega) HB911.out.size
                    go_wp2_with fail
                    go_meet
                    case rel => exact ⟨by rw [← HCK.out]; exact hb12, HC9.out.below hB12, HT9.out.below hB12⟩
                  · have HNUL : Hid (cs = Cs.nul) := by
                      show _ = _
                      rw [← HCS.out, List.getD_eq_getElem?_getD, List.getElem?_eq_none (by omega)]
                      rfl
                    go_wp2_with fail
                    go_meet
                    case rel => exact ⟨by rw [HNUL.out]; exact HG10.out, HC10.out, HT10.out⟩
                case rest =>
                  have HGC := Lib.hid hcut.out.1
                  have HCC := Lib.hid hcut.out.2.1
                  have HTT := Lib.hid hcut.out.2.2
                  have HLC : Hid (cs.b.length ≤ 1000 ∧ ERow eI64 w cs.a cs.b) := by
                    show _ ∧ _
                    by_cases hin : (x - b1).toNat < t.cols.length
                    · have e : t.cols[(x - b1).toNat] = cs := by rw [← HCS.out]; simp [List.getD, hin]
                      rw [← e]
                      exact ⟨HTC.out.lens _ (List.getElem_mem hin), HTC.out.rr _ (List.getElem_mem hin)⟩
                    · have e : cs = Cs.nul := by
                        rw [← HCS.out, List.getD_eq_getElem?_getD, List.getElem?_eq_none (by omega)]
                        rfl
                      rw [e]
                      exact ⟨Nat.zero_le _, ERow.nil⟩
                  clear hcut c1 hbc t1 HC9 HT9 HB910 HGS HG10 HC10 HT10
                  go_upto_region 14 with fail
                  have hd : Below wc.heap.size wc wc.drew := (Below.refl _ _).drewR
                  have HCD := Lib.hid (HCC.out.below hd)
                  have HTD := Lib.hid (HTT.out.below hd)
                  obtain ⟨s0, s1, s2, -⟩ := Blk.c3 (HGC.out.below hd)
                  obtain ⟨-, -, -, d12, -⟩ := Blk.wchs HCD.out.x
                  have hBL : Below wc.drew.heap.size wc.drew (wc.alloc (.cells #[.int .i64 cs.d, .int .i64 cs.n, .slice cs.a cs.b.length cs.c] 51)).drew := by show Below wc.drew.heap.size wc.drew (wc.drew.alloc _); exact Below.alloc1 _ _
                  have HRL7 : Hid (ERow eCs (wc.alloc (.cells #[.int .i64 cs.d, .int .i64 cs.n, .slice cs.a cs.b.length cs.c] 51)).drew (some ⟨wc.heap.size, 0, none⟩) [cs]) := ERow.lit eCs wc.drew cs _ rfl _ rfl
                  have HCE := Lib.hid (HCD.out.below hBL)
                  have HTE := Lib.hid (HTD.out.below hBL)
                  obtain ⟨-, -, -, x12, -⟩ := Blk.wchs HCE.out.x
                  have hcl24 : cols2.length ≤ 1000 := by have := HCL2.out; omega
                  clear hd hBL HCC HTT HGC HCD HTD
                  refine wp_region_plan (.take 0 (.take 1 (.take 2 (.take 3 (.take 4 (.take 5 (.run 6 [0, 1, 2, 3, 4] (.run 7 [0] (.take 8 (.take 9 (.run 10 [] .fin))))))))))) (by kernel_rfl) (by kernel_rfl) (by kernel_rfl) (by kernel_rfl) ?_
                  repeat' (first | (refine hZ _ _ ?_; clear hZ) | (refine hZ _ ?_; clear hZ) | (refine hZ ?_; clear hZ) | rw [again_nil] | rw [walk_fin] | ((first | rw [walk_take] | rw [walk_run] | rw [again_cons]); intro Z hZ; simp only [sel, List.getElem?_toArray, List.getElem?_cons_zero, List.getElem?_cons_succ]; go_wp2_with (at_builtin; refine wpList_append_elems eCs rfl (.tmp 100) (.tmp 102) rfl cols2.length rfl HCE.out.c rfl 1 rfl HRL7.out rfl (by simp; omega) HCE.out.b.size ?_; intro A13 c13 W13 ho13 hB13 hg13 hx13; obtain ⟨-, -, -, y12, -, -, z12⟩ := Blk.wchs (HCE.out.x.keptO HCE.out.c (by decide) hg13))))
                  go_upto_region 9 with fail
                  have k1 := HCE.out.addCol ho13 hg13
                  have k2 : Blk (W13.setCell ⟨g8, 12, none⟩ (.slice A13 (cols2.length + 1) c13)) gt 54 t.cells := (HTE.out.keptO HCE.out.c (by decide) hg13).grown (grown_store W13 g8 12 (.slice A13 (cols2.length + 1) c13)) (by simp only [ne_eq, Option.some.injEq]; exact HGT.out)
                  generalize W13.setCell ⟨g8, 12, none⟩ (.slice A13 (cols2.length + 1) c13) = W14 at k1 k2 ⊢
                  have HC14 := Lib.hid k1
                  have HT14 := Lib.hid k2
                  have HFN : Hid (Pn.fillC p.x t i (e1 - (x + 1)).toNat (x + 1) (rows2 ++ [t.rows], cols2 ++ [cs]) = D1) := by
                    show _ = _
                    rw [← HFC.out, show (e1 - x).toNat = (e1 - (x + 1)).toNat + 1 by omega]
                    show _ = Pn.fillC p.x t i (e1 - (x + 1)).toNat (x + 1) (rows2 ++ [t.rows], cols2 ++ [t.cols.getD (x - Pn.b p.x i).toNat Cs.nul])
                    rw [HB1.out, HCS.out]
                  have HCYN : Hid (∀ y ∈ cols2 ++ [cs], ERow eI64 w y.a y.b ∧ y.b.length ≤ 1000) := by
                    intro y hy
                    rcases List.mem_append.1 hy with hy | hy
                    · exact HCY2.out y hy
                    · rw [List.mem_singleton.1 hy]; exact ⟨HLC.out.2, HLC.out.1⟩
                  have HLN : Hid ((((rows2 ++ [t.rows]).length : Nat) : Int) = x + 1 ∧ (cols2 ++ [cs]).length = (rows2 ++ [t.rows]).length) := by
                    show _ ∧ _
                    have := HCL2.out
                    simp
                    omega
                  clear k1 k2 ho13 hB13 hg13 hx13 HCE HTE x12 d12 y12 z12 s0 s1 s2 HRL7
                  go_wp2_with fail
                  go_roundw
                  case rel => exact ⟨x + 1, by go_num, by omega, by omega, A8, rows2 ++ [t.rows], c8, A13, cols2 ++ [cs], c13, HFN.out, HLN.out.1, HLN.out.2, HCYN.out, HC14.out, HT14.out⟩
                  case measure => simp [intOf]; omega
              · have hxe2 : x = e1 := by omega
                subst hxe2
                have HD2 : Hid (D1 = (rows2, cols2)) := by
                  show _ = _
                  rw [← HFC.out, Int.sub_self]
                  rfl
                have HF2 : Hid (Pn.fillT p.x (i + 1) (S.drop (i + 1)) (rows2, cols2) = (p.x.rows, p.x.cols)) := by show _ = _; rw [← HD2.out]; exact HF1.out
                have HRL2 : Hid (((rows2.length : Nat) : Int) = Pn.bAt p.x (i + 1)) := by show _ = _; rw [Pn.bAt_succ HSH.out hlt, HE1.out]; exact hrl2
                go_wp2_with fail
                go_roundw
                case rel => exact ⟨i + 1, by omega, by go_num, ra2, rows2, rc2, ca2, cols2, cc2, HF2.out, HRL2.out, HCL2.out, HCY2.out, HC7.out⟩
                case measure => simp [intOf]; omega
          · have hii : ¬ (i : Int) < (p.x.T.length : Int) := by omega
            have hie : i = p.x.T.length := by omega
            have HRR : Hid (rows = p.x.rows ∧ cols = p.x.cols) := by
              have e := HF.out
              rw [List.drop_eq_nil_of_le (by omega)] at e
              exact ⟨congrArg Prod.fst e, congrArg Prod.snd e⟩
            have hrW : ((rows.length : Nat) : Int) = p.x.W := by rw [HRL.out]; unfold Pn.bAt; rw [if_neg (by omega)]
            have hr24 : rows.length ≤ 24 := by
              have h1 := HSH.out.lt (p.x.T.length - 1) (by have := HSH.out.t1; omega)
              have h2 := Pn.bAt_succ HSH.out (i := p.x.T.length - 1) (by have := HSH.out.t1; omega)
              have h3 := HRL.out
              rw [show p.x.T.length - 1 + 1 = i by have := HSH.out.t1; omega, ← h3] at h2
              omega
            have HRL2 := Lib.hid hrW
            clear hrW
            obtain ⟨-, -, -, c3, -⟩ := Blk.qp HC.out.q
            go_upto_region 17 with fail
            clear c3
            go_loopw [110] (fun iv wr => ∃ (i : Nat), i ≤ p.x.wh.length ∧ iv = .int .i64 (i : Int) ∧ Hid (∃ na need nc, need = (p.x.wh.take i).map (fun y => (Pn.asks p.x y).1) ∧ (p.x.wh.take i).all (fun y => !(Pn.asks p.x y).2) = true ∧ ChSt w wr p da p.x.defs.length dc g3 g6 g8 na need nc ra rows rc ca cols cc)) (fun iv _ => p.x.wh.length - (intOf iv).toNat)
            case atStart => exact ⟨0, Nat.zero_le _, by go_num, none, [], 0, rfl, rfl, HC.out⟩
            case round =>
              obtain ⟨m, hm, rfl, HJ⟩ := hrel
              obtain ⟨na, need, nc, hne, hal, hC2⟩ := HJ.out
              have HNE := Lib.hid hne
              have HAL := Lib.hid hal
              have HC2 := Lib.hid hC2
              clear HJ hne hal hC2
              by_cases hltm : m < p.x.wh.length
              · have hmi : (m : Int) < (p.x.wh.length : Int) := by omega
                obtain ⟨y, hy⟩ : ∃ y, p.x.wh[m] = y := ⟨_, rfl⟩
                have HY := Lib.hid hy
                have HROW := Lib.hid (HP.out.wn.below HC2.out.b)
                obtain ⟨wb, wo, ha, -⟩ := HROW.out.range hltm
                have HIW : Hid (ERow eNd wr (some ⟨wb, wo, none⟩) p.x.wh) := by show ERow _ _ _ _; rw [← ha]; exact HROW.out
                have HYN : Hid (NodeIn w y) := by show NodeIn _ _; rw [← hy]; exact HP.out.nin _ (List.getElem_mem hltm)
                rw [ha]
                clear ha HROW hy
                go_upto_region 19 with (first | (refine wpList_load_nd_is rfl (.tmp 112) rfl HIW.out hltm y HY.out rfl ?_) | (refine wpList_alloc_nd rfl rfl ?_; intro W5 hb5 hz5 hB5) | (refine wpList_store_nd rfl rfl (.tmp 14) (.tmp 113) rfl _ rfl y rfl hb5 ?_; intro W6 hb6 hg6))
                have hB6 : Below wr.heap.size wr W6 := below_of_grown hB5 hg6 (Nat.le_refl _) (by omega)
                obtain ⟨gn, hgn⟩ : ∃ gn, wr.heap.size = gn := ⟨_, rfl⟩
                rw [hgn] at hb6 ⊢
                have HC6 := Lib.hid (HC2.out.below hB6)
                clear hb5 hz5 hB5 hg6 hB6 hgn HIW HC2
                go_wp2_with (first | (refine wpList_load_qp0 rfl (.tmp 3) rfl g3 rfl HC6.out.q ?_) | (refine wpList_load_nd rfl (.tmp 14) rfl gn rfl hb6 ?_))
                refine (plasks_any W6 p (HP.out.below HC6.out.b) (by have := HSH.out.bl; omega) y (nd_below15 HYN.out HC6.out.b) W6 (Below.refl _ _)).mono ?_
                rintro e W7 ⟨rfl, hB7⟩
                have HC7 := Lib.hid (HC6.out.below hB7)
                obtain ⟨am, ham⟩ : ∃ k, (Pn.asks p.x y).1 = k := ⟨_, rfl⟩
                obtain ⟨ab, hab⟩ : ∃ k, (Pn.asks p.x y).2 = k := ⟨_, rfl⟩
                have HAM := Lib.hid ham
                have HAB := Lib.hid hab
                rw [ham, hab]
                clear ham hab hB7 HC6 hb6
                cases ab with
                | true =>
                  have HER : Hid (Pn.chOk p.x p.x.T.length = false) := by
                    show _ = _
                    have h : (p.x.wh.all fun y => !(Pn.asks p.x y).2) = false := by
                      rw [List.all_eq_false]
                      exact ⟨y, by rw [← HY.out]; exact List.getElem_mem hltm, by rw [HAB.out]; decide⟩
                    unfold Pn.chOk
                    rw [h]
                    simp
                  have HO7 := Lib.hid HC7.out.o
                  have HB7 := Lib.hid HC7.out.b
                  go_wp2_with (refine wpList_store_pm rfl rfl (.tmp 6) (.tmp 121) rfl g6 rfl Pm.nil rfl HO7.out ?_; intro WE hbe hge)
                  refine ret_mem2 rfl rfl rfl rfl (load_pm hbe) ⟨Pm.nil, 1, rfl, below_of_grown HB7.out hge (by have := HN.out; omega) HB7.out.size, fun _ => PmRd.nil, .inr ⟨HER.out, rfl, rfl⟩⟩
                | false =>
                  have HNE2 : Hid (need ++ [am] = (p.x.wh.take (m + 1)).map (fun y => (Pn.asks p.x y).1)) := by
                    show _ = _
                    rw [List.take_succ_eq_append_getElem hltm, List.map_append, ← HNE.out, HY.out]
                    simp [HAM.out]
                  have HAL2 : Hid ((p.x.wh.take (m + 1)).all (fun y => !(Pn.asks p.x y).2) = true) := by
                    show _ = _
                    rw [List.take_succ_eq_append_getElem hltm, List.all_append, HAL.out, HY.out]
                    simp [HAB.out]
                  have hnl : need.length ≤ 1000 := by rw [HNE.out]; simp; omega
                  have HRL7 : Hid (ERow eMk (W7.alloc (.cells #[.int .u8 (am : Nat)] 63)) (some ⟨W7.heap.size, 0, none⟩) [am]) := ERow.lit eMk W7 am _ rfl _ rfl
                  have HCE := Lib.hid (HC7.out.below (Below.alloc1 W7 (.cells #[.int .u8 (am : Nat)] 63)))
                  obtain ⟨-, d10, -⟩ := Blk.wchs HC7.out.x
                  obtain ⟨-, x10, -⟩ := Blk.wchs HCE.out.x
                  go_upto_region 23 with (at_builtin; refine wpList_append_elems eMk rfl (.tmp 126) (.tmp 128) rfl need.length rfl HCE.out.n rfl 1 rfl HRL7.out rfl (by simp; omega) HCE.out.b.size ?_; intro A8 c8 W8 ho8 hB8 hg8 hx8; obtain ⟨-, y10, -, -, z10, -, -⟩ := Blk.wchs (HCE.out.x.keptO HCE.out.n (by decide) hg8))
                  have k1 := HCE.out.addNeed ho8 hg8
                  generalize W8.setCell ⟨g8, 10, none⟩ (.slice A8 (need.length + 1) c8) = W9 at k1 ⊢
                  have HC9 := Lib.hid k1
                  clear k1 ho8 hB8 hg8 hx8 HCE x10 d10 y10 z10 HRL7 HC7
                  go_wp2_with fail
                  go_roundw
                  case rel => exact ⟨m + 1, by omega, by go_num, A8, need ++ [am], c8, HNE2.out, HAL2.out, HC9.out⟩
                  case measure => simp [intOf]; omega
              · have hmi : ¬ (m : Int) < (p.x.wh.length : Int) := by omega
                obtain ⟨X, hX⟩ : ∃ X : Wp, X = ⟨p, da, dc, na, need, nc, ra, rc, ca, cc⟩ := ⟨_, rfl⟩
                have hme : m = p.x.wh.length := by omega
                have HAL2 : Hid ((p.x.wh.all fun y => !(Pn.asks p.x y).2) = true) := by
                  show _ = _
                  have := HAL.out
                  rw [hme, List.take_length] at this
                  exact this
                have HXP : Hid (X.p = p) := by show _ = _; rw [hX]
                have HXB : Hid (Blk wr g8 61 X.cells) := by
                  show Blk _ _ _ _
                  rw [hX]
                  unfold Wp.cells Wp.tail
                  dsimp only
                  rw [← HRR.out.1, ← HRR.out.2]
                  exact HC2.out.x
                have HXI : Hid (WpIn wr X) := by
                  show WpIn _ _
                  rw [hX]
                  refine ⟨HP.out.below HC2.out.b, HSH.out, HD.out.below HC2.out.b, HC2.out.n.row, ?_, ⟨?_, ⟨?_, ?_, ?_, ?_⟩, ?_, ?_⟩, ?_, hwl⟩
                  · have := HNE.out
                    rw [hme, List.take_length] at this
                    exact this
                  · rw [← HRR.out.1]; exact HC2.out.r.row
                  · rw [← HRR.out.2]; exact HC2.out.c.row
                  · rw [← HRR.out.2]; exact fun y hy => (HCY.out y hy).1.below HC2.out.b
                  · rw [← HRR.out.2, HCL.out]; omega
                  · rw [← HRR.out.2]; exact fun y hy => (HCY.out y hy).2
                  · rw [← HRR.out.1]; omega
                  · rw [← HRR.out.2, HCL.out]; omega
                  · rw [← HRR.out.1]; exact HRL2.out
                clear hX
                go_upto_region 24 with fail
                go_wp2_with (refine wpList_load_qp0 rfl (.tmp 3) rfl g3 rfl HC2.out.q ?_)
                refine (plsorts_any wr p (HP.out.below HC2.out.b) (by have := HSH.out.bl; omega)).mono ?_
                rintro e W5 ⟨rfl, hB5⟩
                have HC5 := Lib.hid (HC2.out.below hB5)
                have HXB5 := Lib.hid (HXB.out.below hB5)
                have HXI5 := Lib.hid (HXI.out.below hB5)
                obtain ⟨by_, hby⟩ : ∃ k, (Pn.sorts p.x).1 = k := ⟨_, rfl⟩
                obtain ⟨mu, hmu⟩ : ∃ k, (Pn.sorts p.x).2 = k := ⟨_, rfl⟩
                have HMU := Lib.hid hmu
                rw [hby, hmu]
                clear hB5 hby hmu HC2 HXB HXI
                have hol := HP.out.ol
                obtain ⟨od, hod⟩ : ∃ k, Pn.orders p.x = k := ⟨_, rfl⟩
                have HOD := Lib.hid hod
                go_upto_region 25 with fail
                go_cut [143] from 138 to 143 (fun v wx => Hid (v = .bool (od && !mu) ∧ ChSt w wx p da p.x.defs.length dc g3 g6 g8 na need nc ra rows rc ca cols cc ∧ Blk wx g8 61 X.cells ∧ WpIn wx X))
                case first =>
                  go_wp2_with (refine wpList_load_qp0 rfl (.tmp 3) rfl g3 rfl HC5.out.q ?_)
                  refine (plorders_any W5 p hol).mono ?_
                  rintro e W6 ⟨rfl, hB6⟩
                  have HC6 := Lib.hid (HC5.out.below hB6)
                  have HXB6 := Lib.hid (HXB5.out.below hB6)
                  have HXI6 := Lib.hid (HXI5.out.below hB6)
                  rw [hod]
                  clear hB6 hod HC5 HXB5 HXI5
                  cases od with
                  | false =>
                    go_wp2_with fail
                    go_meet
                    case rel => exact ⟨rfl, HC6.out, HXB6.out, HXI6.out⟩
                  | true =>
                    go_wp2_with fail
                    go_meet
                    case rel => exact ⟨by simp, HC6.out, HXB6.out, HXI6.out⟩
                case rest =>
                  obtain ⟨rfl, hc6, hxb6, hxi6⟩ := hcut.out
                  have HC6 := Lib.hid hc6
                  have HXB6 := Lib.hid hxb6
                  have HXI6 := Lib.hid hxi6
                  clear hcut hc6 hxb6 hxi6 hod HC5 HXB5 HXI5
                  by_cases hbad : (od && !mu) = true
                  · have HER : Hid (Pn.chOk p.x S.length = false) := by
                      show _ = _
                      have h1 : od = true ∧ mu = false := by revert hbad; cases od <;> cases mu <;> simp
                      unfold Pn.chOk
                      rw [HOD.out, HMU.out, h1.1, h1.2]
                      simp
                    rw [hbad]
                    have HO7 := Lib.hid HC6.out.o
                    have HB7 := Lib.hid HC6.out.b
                    go_wp2_with (refine wpList_store_pm rfl rfl (.tmp 6) (.tmp 144) rfl g6 rfl Pm.nil rfl HO7.out ?_; intro WE hbe hge)
                    refine ret_mem2 rfl rfl rfl rfl (load_pm hbe) ⟨Pm.nil, 1, rfl, below_of_grown HB7.out hge (by have := HN.out; omega) HB7.out.size, fun _ => PmRd.nil, .inr ⟨HER.out, rfl, rfl⟩⟩
                  · have hbad2 : (od && !mu) = false := by revert hbad; cases (od && !mu) <;> simp
                    have HOK : Hid (Pn.chOk p.x p.x.T.length = true) := by
                      show _ = _
                      have h1 : (!od || mu) = true := by revert hbad2; cases od <;> cases mu <;> simp
                      unfold Pn.chOk
                      rw [HOD.out, HMU.out, HMY.out, HAL2.out, h1]
                      simp [h64]
                    rw [hbad2]
                    obtain ⟨c0, -⟩ := Blk.qp HC6.out.q
                    go_wp2_with fail
                    refine (explore_any wc p.x.T.length HSH.out.t1 ht4).mono ?_
                    rintro e W7 ⟨rfl, ⟨F, hF⟩, hB7⟩
                    obtain ⟨gm, hgm⟩ : ∃ gm, wc.heap.size = gm := ⟨_, rfl⟩
                    have HM7 := Lib.hid (OptMem.start hF HSH.out.t1 (by omega))
                    have HC7 := Lib.hid (HC6.out.below hB7)
                    have HB7 := Lib.hid hB7
                    rw [hgm] at HM7 HB7 ⊢
                    have HGM := Lib.hid hgm
                    clear hF hB7 hgm c0
                    obtain ⟨c0, -⟩ := Blk.qp HC7.out.q
                    go_upto_region 28 with fail
                    go_cut [20] from 149 to 153 (fun v wx => Hid (v = .int .u8 ((2 ^ p.x.T.length - 1 : Nat) : Int) ∧ W7 = wx))
                    case first =>
                      go_wp2_with fail
                      go_meet
                      case rel => exact ⟨by rw [all8 HSH.out.t1 ht4], rfl⟩
                    case rest =>
                      obtain ⟨rfl, rfl⟩ := hcut.out
                      have HALL : Hid (1 ≤ 2 ^ p.x.T.length - 1 ∧ 2 ^ p.x.T.length - 1 < 16 ∧ 2 ^ p.x.T.length - 1 < 2 ^ p.x.T.length) := by
                        show _ ∧ _ ∧ _
                        have h1 := HSH.out.t1
                        generalize p.x.T.length = n at *
                        have hn : n = 1 ∨ n = 2 ∨ n = 3 ∨ n = 4 := by omega
                        rcases hn with rfl | rfl | rfl | rfl <;> decide
                      obtain ⟨MF, hMF⟩ : ∃ MF, Pn.optAll p.x (Pn.J p.x.T.length) 1 (2 ^ p.x.T.length - 1) (fun _ => ⟨none, none⟩) = MF := ⟨_, rfl⟩
                      have HMF := Lib.hid hMF
                      have HEND : Hid (∀ l, (MF (2 ^ p.x.T.length - 1)).ord = some l → l = Pn.choose p.x) := by
                        intro l hl
                        rw [← hMF] at hl
                        unfold Pn.choose
                        dsimp only
                        rw [hl]
                      have HEND2 : Hid (∀ l, (MF (2 ^ p.x.T.length - 1)).ord = none → (MF (2 ^ p.x.T.length - 1)).best = some l → l = Pn.choose p.x) := by
                        intro l hl hb
                        rw [← hMF] at hl hb
                        unfold Pn.choose
                        dsimp only
                        rw [hl, hb]
                        rfl
                      clear hMF
                      obtain ⟨N, hN⟩ : ∃ N, Pn.mcnt (Pn.mEnd p.x.T.length).1 = N := ⟨_, rfl⟩
                      rw [hN] at HM7
                      clear hN
                      obtain ⟨J, hJ⟩ : ∃ J, Pn.J p.x.T.length = J := ⟨_, rfl⟩
                      have HJE := Lib.hid hJ
                      rw [hJ] at HM7 HMF
                      clear hJ
                      obtain ⟨all, hall⟩ : ∃ all, 2 ^ p.x.T.length - 1 = all := ⟨_, rfl⟩
                      have HALE := Lib.hid hall
                      rw [hall] at HM7 HMF HALL HEND HEND2 ⊢
                      clear hall
                      have ha1 := HALL.out.1
                      have ha16 := HALL.out.2.1
                      have HZ := Lib.hid ptrG_zero
                      clear c0
                      go_upto_region 30 with fail
                      go_loopw [21] (fun sv wr => ∃ (s : Nat), 1 ≤ s ∧ s ≤ all + 1 ∧ sv = .int .u8 (s : Int) ∧ Hid (∃ M F, OptMem wr wc.heap.size gm N F J M all ∧ Pn.optAll p.x J s (all + 1 - s) M = MF ∧ (∀ k, 1 ≤ k → k < s → (M k).best.isSome = true) ∧ Below wc.heap.size wc wr)) (fun sv _ => all + 1 - (intOf sv).toNat)
                      case atStart => exact ⟨1, Nat.le_refl _, by omega, by go_num, _, _, by rw [HGM.out]; exact HM7.out, by rw [Nat.add_sub_cancel]; exact HMF.out, fun k k1 k2 => by omega, by rw [HGM.out]; exact HB7.out⟩
                      case round =>
                        obtain ⟨s, hs1, hs2, rfl, HJ⟩ := hrel
                        obtain ⟨M, Fs, hM, hoa, hbst, hBr⟩ := HJ.out
                        have HM := Lib.hid hM
                        have HOA := Lib.hid hoa
                        have HBS := Lib.hid hbst
                        have HBR := Lib.hid hBr
                        clear HJ hM hoa hbst hBr
                        by_cases hle : s ≤ all
                        · have hii : (s : Int) ≤ (all : Int) := by omega
                          have hs15 : (s : Int) + 1 < 256 := by omega
                          go_wp2_with fail
                          obtain ⟨g0, ja, jc, hO⟩ := HM.out.st hs1 hle
                          have hlt : s < 2 ^ p.x.T.length := by have := HALL.out.2.2; omega
                          refine (plopt_any wc g8 X HXB6.out HXI6.out gm N J M all s _ g0 ja jc hs1 hle ha16 ?_ ?_ ?_ wr HBR.out hO).mono ?_
                          · rw [← HJE.out]; exact Pn.J_few _ (by omega) HSH.out.t1 _ hlt hs1
                          · intro j hj
                            rw [← HJE.out] at hj
                            obtain ⟨a1, a2, a3, a4⟩ := Pn.J_parts (by omega) HSH.out.t1 hlt hs1 j hj
                            exact ⟨a1, by omega, a2, by omega, by omega, by omega, HBS.out _ a1 a3, HBS.out _ a2 a4⟩
                          · rw [← HJE.out]
                            cases ho : Pn.one s with
                            | some f => exact .inl ⟨f, rfl, by rw [HXP.out]; exact Pn.J_one _ (by omega) HSH.out.t1 _ hlt hs1 f ho⟩
                            | none =>
                              refine .inr ⟨rfl, fun e => ?_⟩
                              have := Pn.J_ways _ (by omega) HSH.out.t1 _ hlt hs1 ho
                              rw [e] at this
                              cases this
                          rintro e w8 ⟨rfl, hO8, hB8⟩
                          obtain ⟨F8, hM8⟩ := hO8.mem
                          rw [HXP.out] at hM8
                          have HM8 := Lib.hid hM8
                          have HB8 := Lib.hid hB8
                          have HNE : Hid ((Pn.opt p.x J M s).best.isSome = true) := Pn.opt_some _ _ _ _ (by
                            rw [← HJE.out]
                            exact Pn.ways HSH.out.t1 (by omega) hs1 hlt)
                          clear hO hO8 hM8 hB8
                          go_wp2_with fail
                          go_roundw
                          case rel =>
                            refine ⟨s + 1, by omega, by omega, by go_num, _, F8, HM8.out, ?_, ?_, HB8.out⟩
                            · have e := HOA.out
                              rw [show all + 1 - s = (all + 1 - (s + 1)) + 1 by omega, Pn.optAll_succ] at e
                              exact e
                            · intro k k1 k2
                              exact Pn.set_some HBS.out HNE.out k k1 k2
                          case measure => simp [intOf]; omega
                        · have hii : ¬ (s : Int) ≤ (all : Int) := by omega
                          have hse : s = all + 1 := by omega
                          have HME : Hid (M = MF) := by
                            have e := HOA.out
                            rw [hse, Nat.sub_self] at e
                            exact e
                          have HB1 := Lib.hid (HBS.out all ha1 (by omega))
                          clear HOA hse
                          obtain ⟨x, hx⟩ := HM.out.ex all ha1 (Nat.le_refl _)
                          have hmp := HM.out.at_.map
                          obtain ⟨g9, hg9⟩ : ∃ g9, x.g = g9 := ⟨_, rfl⟩
                          have hfs : (fun k => (Fs k).map Gb.g) all = some g9 := by show (Fs all).map Gb.g = _; rw [hx, ← hg9]; rfl
                          have hgb := HM.out.at_.blk all x hx
                          unfold Gb.cells at hgb
                          rw [hg9] at hgb
                          have hbv := HM.out.bv all x hx
                          have hov := HM.out.ov all x hx
                          obtain ⟨bv, hbve⟩ : ∃ bv, x.bv = bv := ⟨_, rfl⟩
                          obtain ⟨ov, hove⟩ : ∃ ov, x.ov = ov := ⟨_, rfl⟩
                          rw [hbve, hove] at hgb
                          rw [hbve] at hbv
                          rw [hove] at hov
                          obtain ⟨-, c1, c2, -⟩ := Blk.c3 hgb
                          have HCR := Lib.hid (HC6.out.below (HBR.out))
                          clear hx hg9 hbve hove hgb HM
                          obtain ⟨os, hos⟩ : ∃ os, (M all).ord = os := ⟨_, rfl⟩
                          obtain ⟨bs, hbs⟩ : ∃ bs, (M all).best = bs := ⟨_, rfl⟩
                          have HOS := Lib.hid hos
                          have HBS2 := Lib.hid hbs
                          rw [hos] at hov
                          rw [hbs] at hbv HB1
                          clear hos hbs
                          have HOr := Lib.hid HCR.out.o
                          have HBr := Lib.hid HCR.out.b
                          cases os with
                          | some l =>
                            obtain ⟨gp, pp, rfl, hpa⟩ := hov
                            have HPA := Lib.hid hpa
                            clear hpa hbv
                            go_wp2_with (first
                              | (at_lookup; refine wpList_memo_at rfl (.tmp 163) (.tmp 164) rfl rfl hmp all rfl (by omega) (HZ.out _) g9 hfs ?_)
                              | (refine wpList_load_pm rfl (.tmp 172) rfl gp rfl HPA.out.b ?_)
                              | (refine wpList_store_pm rfl rfl (.tmp 6) (.tmp 173) rfl g6 rfl pp rfl HOr.out ?_; intro WE hbe hge))
                            refine ret_mem2 rfl rfl rfl rfl (load_pm hbe) ⟨pp, 0, rfl, below_of_grown HBr.out hge (by have := HN.out; omega) HBr.out.size, fun hn => HPA.out.i.rd hn HOr.out hge, .inl ⟨by first | exact HOK.out | (rw [hST]; exact HOK.out), rfl, ?_⟩⟩
                            rw [HPA.out.e]
                            exact HEND.out l (by rw [← HME.out]; exact HOS.out)
                          | none =>
                            obtain rfl : ov = .pointer none := hov
                            obtain ⟨l, hl⟩ := Option.isSome_iff_exists.1 HB1.out
                            rw [hl] at hbv
                            obtain ⟨gp, pp, rfl, hpa⟩ := hbv
                            have HPA := Lib.hid hpa
                            have HL := Lib.hid hl
                            clear hpa hl
                            go_wp2_with (first
                              | (at_lookup; refine wpList_memo_at rfl (.tmp 163) (.tmp 164) rfl rfl hmp all rfl (by omega) (HZ.out _) g9 hfs ?_)
                              | (at_lookup; refine wpList_memo_at rfl (.tmp 174) (.tmp 175) rfl rfl hmp all rfl (by omega) (HZ.out _) g9 hfs ?_)
                              | (refine wpList_load_pm rfl (.tmp 180) rfl gp rfl HPA.out.b ?_)
                              | (refine wpList_store_pm rfl rfl (.tmp 6) (.tmp 181) rfl g6 rfl pp rfl HOr.out ?_; intro WE hbe hge))
                            refine ret_mem2 rfl rfl rfl rfl (load_pm hbe) ⟨pp, 0, rfl, below_of_grown HBr.out hge (by have := HN.out; omega) HBr.out.size, fun hn => HPA.out.i.rd hn HOr.out hge, .inl ⟨by first | exact HOK.out | (rw [hST]; exact HOK.out), rfl, ?_⟩⟩
                            rw [HPA.out.e]
                            exact HEND2.out l (by rw [← HME.out]; exact HOS.out) (by rw [← HME.out, HBS2.out]; exact HL.out)
      · have h6i : 64 < (p.x.defs.length : Int) := by omega
        have HER : Hid (Pn.chOk p.x S.length = false) := by show _ = _; unfold Pn.chOk; rw [decide_eq_false h64]; simp
        go_wp2_with (refine wpList_store_pm rfl rfl (.tmp 6) (.tmp 39) rfl g6 rfl Pm.nil rfl HO3.out ?_; intro WE hbe hge)
        refine ret_mem2 rfl rfl rfl rfl (load_pm hbe) ⟨Pm.nil, 1, rfl, below_of_grown HB3.out hge (by have := HN.out; omega) HB3.out.size, fun _ => PmRd.nil, .inr ⟨HER.out, rfl, rfl⟩⟩
    · have hSi : ¬ (S.length : Int) = (p.x.T.length : Int) := by omega
      have HER : Hid (Pn.chOk p.x S.length = false) := by show _ = _; unfold Pn.chOk; rw [beq_eq_false_iff_ne.2 hST]; simp
      go_wp2_with (refine wpList_store_pm rfl rfl (.tmp 6) (.tmp 39) rfl g6 rfl Pm.nil rfl HO3.out ?_; intro WE hbe hge)
      refine ret_mem2 rfl rfl rfl rfl (load_pm hbe) ⟨Pm.nil, 1, rfl, below_of_grown HB3.out hge (by have := HN.out; omega) HB3.out.size, fun _ => PmRd.nil, .inr ⟨HER.out, rfl, rfl⟩⟩
end Go.Proofs.YtjdffhonljhpcaaGreat
end

section
/-
  What comes into the planner's laws; the contracts of the laws' size and small.
-/
namespace Go.Proofs.YtjdffhonljhpcaaGreat
set_option linter.unusedSimpArgs false
set_option linter.unusedVariables false
open Go.RowKit Go.Deep Go.WideShapes Go.ChangeShapes

instance : Inhabited Cs := ⟨Cs.nul⟩
/-- A query as it comes in: of any size. -/
structure QpRaw (w : World) (p : Qp) : Prop where
  t : ERow eInt w p.ta p.x.T
  tin : ∀ n ∈ p.x.T, Ev.inB n
  tl : p.x.T.length ≤ p.tc
  tm : p.tc ≤ maxLen
  b : ERow eInt w p.ba p.x.B
  bin : ∀ n ∈ p.x.B, Ev.inB n
  bl : p.x.B.length ≤ p.bc
  bm : p.bc ≤ maxLen
  win : Ev.inB p.x.W
  wn : ERow eNd w p.wa p.x.wh
  nin : ∀ n ∈ p.x.wh, NodeIn w n
  wl : p.x.wh.length ≤ p.wc
  wm : p.wc ≤ maxLen
  o : ERow eSo w p.oa p.x.ord
  oin : ∀ s ∈ p.x.ord, Ev.inB s.at_
  ol : p.x.ord.length ≤ p.oc
  om : p.oc ≤ maxLen
theorem QpRaw.below {w W : World} {p : Qp} (h : QpRaw w p) (hB : Below w.heap.size w W) : QpRaw W p :=
  ⟨h.t.below hB, h.tin, h.tl, h.tm, h.b.below hB, h.bin, h.bl, h.bm, h.win, h.wn.below hB, fun n hn => nd_below15 (h.nin n hn) hB, h.wl, h.wm, h.o.below hB, h.oin, h.ol, h.om⟩
/-- What is known of a column, as it comes in. -/
def CsRw (w : World) (c : Cs) : Prop := ERow eI64 w c.a c.b ∧ c.b.length ≤ c.c ∧ c.c ≤ maxLen
def SttRaw (w : World) (t : Stt) : Prop := ERow eCs w t.a t.cols ∧ (∀ c ∈ t.cols, CsRw w c) ∧ t.cols.length ≤ t.c ∧ t.c ≤ maxLen
def DfRaw (w : World) (d : Df) : Prop := ERow eInt w d.a d.cols ∧ (∀ c ∈ d.cols, Ev.inB c) ∧ d.cols.length ≤ d.c ∧ d.c ≤ maxLen
theorem SttRaw.below {w W : World} {t : Stt} (h : SttRaw w t) (hB : Below w.heap.size w W) : SttRaw W t := ⟨h.1.below hB, fun c hc => ⟨(h.2.1 c hc).1.below hB, (h.2.1 c hc).2⟩, h.2.2⟩
theorem DfRaw.below {w W : World} {d : Df} (h : DfRaw w d) (hB : Below w.heap.size w W) : DfRaw W d := ⟨h.1.below hB, h.2⟩
def QpW (w : World) (v : Value) : Prop := ∃ p : Qp, v = p.v ∧ QpRaw w p
def SttsW (w : World) (v : Value) : Prop := ∃ A c L, v = .slice A (List.length L) c ∧ ERow eStt w A L ∧ (∀ t ∈ L, SttRaw w t) ∧ L.length ≤ c ∧ c ≤ maxLen
def DfsW (w : World) (v : Value) : Prop := ∃ A c L, v = .slice A (List.length L) c ∧ ERow eDf w A L ∧ (∀ d ∈ L, DfRaw w d) ∧ L.length ≤ c ∧ c ≤ maxLen
section
variable {H : Type} {enc : TypeId × Value → H} {w : World} {base : Nat} {spare : Nat → Bool} {held : Bool} {fuel : Nat} {cs : List Value} {x : DataW H × List MemPlace}
theorem open_i64s17 (h : DataW.trod enc Tryz.prog w base spare held fuel 49 cs = some x) : ∃ A L c, cs = [.slice A (List.length L) c] ∧ ERow eI64 w A L ∧ (∀ n ∈ L, -9223372036854775808 ≤ n ∧ n ≤ 9223372036854775807) ∧ L.length ≤ c ∧ c ≤ maxLen :=
  open_elems eI64 (by kernel_rfl) _ (fun fuel cs x h _ => by
    obtain ⟨n, rfl, h1, h2⟩ := open_i64 Tryz.underlying2 h
    exact ⟨n, rfl, h1, h2⟩) h
set_option maxRecDepth 20000 in
theorem open_cs17 (h : DataW.trod enc Tryz.prog w base spare held fuel 51 cs = some x) (hlen : cs.length = 3) : ∃ c : Cs, cs = eCs.code c ∧ CsRw w c := by
  obtain ⟨xs, k, hk, rfl, _, hxl, hfs⟩ := DataW.trod_struct Tryz.underlying51 h
  match xs, hxl, cs, hlen with
  | [y0, y1, y2], _, [v0, v1, v2], _ =>
    have g0 := hfs 0 _ rfl
    have g1 := hfs 1 _ rfl
    have g2 := hfs 2 _ rfl
    have q0 : Tryz.prog.cellsOf 2 = 1 := by kernel_rfl
    have q1 : Tryz.prog.cellsOf 49 = 1 := by kernel_rfl
    simp [q0, q1] at g0 g1 g2
    obtain ⟨n0, e0, _⟩ := open_i64 Tryz.underlying2 g0
    obtain ⟨n1, e1, _⟩ := open_i64 Tryz.underlying2 g1
    obtain ⟨A, L, c, e2, r2, i2, l2, m2⟩ := open_i64s17 g2
    have e0' : v0 = .int .i64 n0 := by simpa using e0
    have e1' : v1 = .int .i64 n1 := by simpa using e1
    have e2' : v2 = .slice A L.length c := by simpa using e2
    subst e0' e1' e2'
    exact ⟨⟨n0, n1, A, L, c⟩, rfl, r2, l2, m2⟩
set_option maxRecDepth 20000 in
theorem open_stt (h : DataW.trod enc Tryz.prog w base spare held fuel 54 cs = some x) (hlen : cs.length = 2) : ∃ t : Stt, cs = eStt.code t ∧ SttRaw w t := by
  obtain ⟨xs, k, hk, rfl, _, hxl, hfs⟩ := DataW.trod_struct Tryz.underlying54 h
  match xs, hxl, cs, hlen with
  | [y0, y1], _, [v0, v1], _ =>
    have g0 := hfs 0 _ rfl
    have g1 := hfs 1 _ rfl
    have q0 : Tryz.prog.cellsOf 2 = 1 := by kernel_rfl
    have q1 : Tryz.prog.cellsOf 52 = 1 := by kernel_rfl
    simp [q0, q1] at g0 g1
    obtain ⟨n0, e0, _⟩ := open_i64 Tryz.underlying2 g0
    obtain ⟨A, L, c, e1, r1, i1, l1, m1⟩ := open_elems eCs (by kernel_rfl) (CsRw w) (fun fuel cs x h hlen => open_cs17 h hlen) g1
    have e0' : v0 = .int .i64 n0 := by simpa using e0
    have e1' : v1 = .slice A L.length c := by simpa using e1
    subst e0' e1'
    exact ⟨⟨n0, A, L, c⟩, rfl, r1, i1, l1, m1⟩
set_option maxRecDepth 20000 in
theorem open_df (h : DataW.trod enc Tryz.prog w base spare held fuel 40 cs = some x) (hlen : cs.length = 3) : ∃ d : Df, cs = eDf.code d ∧ DfRaw w d := by
  obtain ⟨xs, k, hk, rfl, _, hxl, hfs⟩ := DataW.trod_struct Tryz.underlying40 h
  match xs, hxl, cs, hlen with
  | [y0, y1, y2], _, [v0, v1, v2], _ =>
    have g0 := hfs 0 _ rfl
    have g1 := hfs 1 _ rfl
    have g2 := hfs 2 _ rfl
    have q0 : Tryz.prog.cellsOf 3 = 1 := by kernel_rfl
    have q1 : Tryz.prog.cellsOf 33 = 1 := by kernel_rfl
    have q2 : Tryz.prog.cellsOf 4 = 1 := by kernel_rfl
    simp [q0, q1, q2] at g0 g1 g2
    obtain ⟨n0, e0, _⟩ := open_i64 Tryz.underlying3 g0
    obtain ⟨A, L, c, e1, r1, i1, l1, m1⟩ := open_intlist g1
    obtain ⟨b, e2, _⟩ := DataW.trod_bool Tryz.underlying4 g2
    have e0' : v0 = .int .i64 n0 := by simpa using e0
    have e1' : v1 = .slice A L.length c := by simpa using e1
    have e2' : v2 = .bool b := by simpa using e2
    subst e0' e1' e2'
    exact ⟨⟨n0, A, L, c, b⟩, rfl, r1, i1, l1, m1⟩
set_option maxRecDepth 20000 in
theorem open_qp (h : DataW.trod enc Tryz.prog w base spare held fuel 36 cs = some x) (hlen : cs.length = 9) : ∃ p : Qp, cs = p.cells ∧ QpRaw w p := by
  obtain ⟨xs, k, hk, rfl, _, hxl, hfs⟩ := DataW.trod_struct Tryz.underlying36 h
  match xs, hxl, cs, hlen with
  | [y0, y1, y2, y3, y4, y5, y6, y7, y8], _, [v0, v1, v2, v3, v4, v5, v6, v7, v8], _ =>
    have g0 := hfs 0 _ rfl
    have g1 := hfs 1 _ rfl
    have g2 := hfs 2 _ rfl
    have g3 := hfs 3 _ rfl
    have g4 := hfs 4 _ rfl
    have g5 := hfs 5 _ rfl
    have g6 := hfs 6 _ rfl
    have g7 := hfs 7 _ rfl
    have g8 := hfs 8 _ rfl
    have q0 : Tryz.prog.cellsOf 3 = 1 := by kernel_rfl
    have q1 : Tryz.prog.cellsOf 33 = 1 := by kernel_rfl
    have q2 : Tryz.prog.cellsOf 34 = 1 := by kernel_rfl
    have q3 : Tryz.prog.cellsOf 4 = 1 := by kernel_rfl
    have q4 : Tryz.prog.cellsOf 25 = 1 := by kernel_rfl
    simp [q0, q1, q2, q3, q4] at g0 g1 g2 g3 g4 g5 g6 g7 g8
    obtain ⟨ta, tr, tc, e0, r0, i0, l0, m0⟩ := open_intlist g0
    obtain ⟨ba, br, bc, e1, r1, i1, l1, m1⟩ := open_intlist g1
    obtain ⟨n2, e2, b2⟩ := open_i64 Tryz.underlying3 g2
    obtain ⟨wa, wh, wc, e3, r3, i3, l3, m3⟩ := open_nodes g3
    obtain ⟨ga, gr, gc, e4, r4, i4, l4, m4⟩ := open_intlist g4
    obtain ⟨n5, e5, _⟩ := DataW.trod_bool Tryz.underlying4 g5
    obtain ⟨ia, it, ic, e6, r6, i6, l6, m6⟩ := open_nodes g6
    obtain ⟨oa, od, oc, e7, r7, i7, l7, m7⟩ := open_sorts g7
    obtain ⟨n8, e8, b8⟩ := open_i64 Tryz.underlying3 g8
    have e0' : v0 = .slice ta tr.length tc := by simpa using e0
    have e1' : v1 = .slice ba br.length bc := by simpa using e1
    have e2' : v2 = .int .i64 n2 := by simpa using e2
    have e3' : v3 = .slice wa wh.length wc := by simpa using e3
    have e4' : v4 = .slice ga gr.length gc := by simpa using e4
    have e5' : v5 = .bool n5 := by simpa using e5
    have e6' : v6 = .slice ia it.length ic := by simpa using e6
    have e7' : v7 = .slice oa od.length oc := by simpa using e7
    have e8' : v8 = .int .i64 n8 := by simpa using e8
    subst e0' e1' e2' e3' e4' e5' e6' e7' e8'
    exact ⟨⟨⟨tr, br, n2, wh, n5, od, [], [], []⟩, ta, tc, ba, bc, wa, wc, ga, gr, gc, ia, it, ic, oa, oc, n8⟩, rfl, r0, i0, l0, m0, r1, i1, l1, m1, b2, r3, i3, l3, m3, r7, i7, l7, m7⟩
end
set_option maxRecDepth 20000 in
theorem qp_in {H : Type} {enc : TypeId × Value → H} {w : World} {base : Nat} {v : Value} {d : DataW H} {p : List MemPlace}
    (hv : Value.okWide Tryz.prog w .any base 36 v) (h : DataW.Trod enc Tryz.prog w 0 (fun _ => true) true 36 v d p) : QpW w v := by
  have hag : ∃ cs : Array Value, v = .agg cs := by
    simp only [Value.okWide, Tryz.underlying36] at hv
    obtain ⟨cs, h1, _⟩ := hv
    exact ⟨cs, h1⟩
  obtain ⟨cs, rfl⟩ := hag
  obtain ⟨fuel, hf⟩ := h
  have h9 : Tryz.prog.cellsOf 36 = 9 := by kernel_rfl
  have hlen : cs.toList.length = 9 := by
    obtain ⟨xs, k, hk, -, hcl, hxl, hfs⟩ := DataW.trod_struct Tryz.underlying36 hf
    rw [h9] at hcl
    simpa [Value.cells] using hcl
  obtain ⟨q, e, hq⟩ := open_qp hf hlen
  refine ⟨q, ?_, hq⟩
  show Value.agg cs = .agg q.cells.toArray
  rw [← e]
  rfl
set_option maxRecDepth 20000 in
theorem stts_in {H : Type} {enc : TypeId × Value → H} {w : World} {base : Nat} {v : Value} {d : DataW H} {p : List MemPlace}
    (hv : Value.okWide Tryz.prog w .any base 37 v) (h : DataW.Trod enc Tryz.prog w 0 (fun _ => true) true 37 v d p) : SttsW w v := by
  obtain ⟨a0, len0, cap0, rfl⟩ := okWide_slice Tryz.underlying37 hv
  obtain ⟨fuel, hf⟩ := h
  obtain ⟨A, L, c, h1, h2, h3, h4, h5⟩ := open_elems eStt (by kernel_rfl) (SttRaw w) (fun fuel cs x h hlen => open_stt h hlen) hf
  simp [Value.cells] at h1
  obtain ⟨rfl, rfl, rfl⟩ := h1
  exact ⟨_, _, L, rfl, h2, h3, h4, h5⟩
set_option maxRecDepth 20000 in
theorem dfs_in {H : Type} {enc : TypeId × Value → H} {w : World} {base : Nat} {v : Value} {d : DataW H} {p : List MemPlace}
    (hv : Value.okWide Tryz.prog w .any base 38 v) (h : DataW.Trod enc Tryz.prog w 0 (fun _ => true) true 38 v d p) : DfsW w v := by
  obtain ⟨a0, len0, cap0, rfl⟩ := okWide_slice Tryz.underlying38 hv
  obtain ⟨fuel, hf⟩ := h
  obtain ⟨A, L, c, h1, h2, h3, h4, h5⟩ := open_elems eDf (by kernel_rfl) (DfRaw w) (fun fuel cs x h hlen => open_df h hlen) hf
  simp [Value.cells] at h1
  obtain ⟨rfl, rfl, rfl⟩ := h1
  exact ⟨_, _, L, rfl, h2, h3, h4, h5⟩
/-! ### an index at a place -/
theorem df_info : (Tryz.prog.info? 40).map (·.size) = some 3 := by kernel_rfl
def Df.nul : Df := ⟨0, none, [], 0, false⟩
theorem df_zero (W : World) : (zeroValue 40).run Tryz.prog W = .ok Df.nul.v W := (zero_of_info (P := Tryz.prog) (t := 40) (v := Df.nul.v) (n := 3) (by kernel_rfl)).1 W
section
variable {w : World} {ops : Array Oper} {rest : List Oper} {o : Oper} {a : Act} {Q : Exit → Act → World → Prop}
theorem wpList_alloc_df (hgd : o.guard = none) (hop : o.op = .alloc 40)
    (h : ∀ W, Blk W w.heap.size 40 Df.nul.cells → w.heap.size + 1 ≤ W.heap.size → Below w.heap.size w W → wpList Tryz.prog ops Q rest (a.put o.dst (.pointer (some ⟨w.heap.size, 0, none⟩))) W) : wpList Tryz.prog ops Q (o :: rest) a w :=
  wpList_alloc_z hgd 40 hop (df_zero _) fun W hW => by
    obtain ⟨h1, h2, h3⟩ := fresh1 (a := Df.nul.cells) hW
    exact h W h1 h2 h3
theorem wpList_store_df (hgd : o.guard = none) (hod : o.dst = none) (x y : Operand) (hop : o.op = .store 40 x y) (g : Nat) (hx : a.eval x = .pointer (some ⟨g, 0, none⟩)) (b : Df) (hy : a.eval y = b.v) {T0 : TypeId} {old : Df} (hb : Blk w g T0 old.cells)
    (h : ∀ W, Blk W g T0 b.cells → w.grownBy W (some g) → wpList Tryz.prog ops Q rest a W) : wpList Tryz.prog ops Q (o :: rest) a w :=
  wpList_store_blk hgd hod 40 x y hop g hx b.cells hy hb rfl df_info (eDf.one b) h
theorem wpList_load_df_at (hgd : o.guard = none) (x : Operand) (hop : o.op = .load 40 x) {b off : Nat} {L : List Df} (hr : ERow eDf w (some ⟨b, off, none⟩) L) {j : Nat} (hj : j < L.length) (p : Df) (hp : L[j] = p) (hx : a.eval x = .pointer (some ⟨b, off + j * 3, none⟩))
    (h : wpList Tryz.prog ops Q rest (a.put o.dst p.v) w) : wpList Tryz.prog ops Q (o :: rest) a w := by
  subst hp
  obtain ⟨b', off', e, hb, hrg⟩ := hr.range hj
  cases e
  exact wpList_load_mid hgd 40 x hop b (off + j * 3) hx L[j].cells _ hrg Tryz.underlying40 rfl df_info h
end
/-! ### size and small -/
/-- size answers some number. -/
def SizesTo17 (w : World) (n : Nd) : Prop := ∀ W, Below w.heap.size w W → ∀ m : Int, Calls Tryz.prog 6 #[n.v, .int .i64 m] W (RetNum15 W)
set_option maxRecDepth 20000 in
set_option maxHeartbeats 4000000 in
theorem size17_any (w : World) (n : Nd) (hn : NodeIn w n) : SizesTo17 w n := by
  induction hn with
  | @mk n hr hin hlit hls hk hat hc hm ih =>
  have HR := Lib.hid hr
  have HI := Lib.hid ih
  have hcm : n.args.length ≤ 9223372036854775807 := by unfold maxLen at hm; omega
  clear hr hin hlit hls hk hat hc hm ih
  intro W hB m
  have HB := Lib.hid hB
  clear hB
  go_enter Tryz.func6, Tryz.ntmps6
  go_upto_region 1 with (refine wpList_box_nd rfl (.tmp 0) rfl n rfl ?_; intro W1 hb1 hz1 hB1)
  have HB1 := Lib.hid hB1
  obtain ⟨-, -, -, -, -, -, -, -, -, c9, -⟩ := Blk.c10 hb1
  clear hB1 hb1 hz1
  generalize W.heap.size = g2 at c9 ⊢
  go_wp2_with fail
  clear c9
  go_loopw [5, 11] (fun v5 iv wr => ∃ (r : Int) (i : Nat), v5 = .int .i64 r ∧ i ≤ n.args.length ∧ iv = .int .i64 (i : Int) ∧ Hid (Below W.heap.size W wr)) (fun _ iv _ => n.args.length - (intOf iv).toNat)
  case atStart => exact ⟨_, 0, rfl, Nat.zero_le _, by go_num, HB1.out⟩
  case round =>
    obtain ⟨r, i, rfl, hi, rfl, HJ⟩ := hrel
    by_cases hlt : i < n.args.length
    · have hii : (i : Int) < (n.args.length : Int) := by omega
      obtain ⟨bb, oo, ha, -, -⟩ := HR.out.at_ hlt
      have HIW : Hid (ERow eNd wr (some ⟨bb, oo, none⟩) n.args) := by show ERow _ _ _ _; rw [← ha]; exact HR.out.below (HB.out.then HJ.out)
      rw [ha]
      clear ha
      go_upto_region 5 with (first | (refine wpList_load_nd_at rfl (.tmp 13) rfl HIW.out hlt rfl ?_) | (refine wpList_alloc_nd rfl rfl ?_; intro W6 hb6 hz6 hB6) | (refine wpList_store_nd rfl rfl (.tmp 7) (.tmp 14) rfl wr.heap.size rfl n.args[i] rfl hb6 ?_; intro W7 hb7 hg7))
      have HB7 := Lib.hid (below_of_grown (HJ.out.then hB6) hg7 HJ.out.size (Nat.le_trans HJ.out.size hB6.size))
      clear hb6 hz6 hB6 hg7 HIW
      generalize wr.heap.size = g7 at hb7 ⊢
      by_cases hrm : m < r
      · go_wp2_with fail
        go_ret
        exact ⟨r, rfl, HB7.out⟩
      · go_wp2_with (refine wpList_load_nd rfl (.tmp 7) rfl g7 rfl hb7 ?_)
        refine (HI.out _ (List.getElem_mem hlt) W7 (HB.out.then HB7.out) _).mono ?_
        rintro e W8 ⟨r2, rfl, hB8⟩
        have HB8 := Lib.hid (HB7.out.then hB8)
        clear hB8 hb7
        go_wp2_with fail
        go_roundw
        case rel => exact ⟨_, i + 1, rfl, by omega, by go_num, HB8.out⟩
        case measure => simp [intOf]; omega
    · have hii : ¬ (i : Int) < (n.args.length : Int) := by omega
      go_wp2_with fail
      go_ret
      exact ⟨r, rfl, HJ.out⟩
/-- Small enough to be tried. -/
structure SmallP (x : Pn.PX) (S : List Stt) (D : List Df) : Prop where
  wh : x.wh.length ≤ 10
  ord : x.ord.length ≤ 6
  s : S.length ≤ 6
  d : D.length ≤ 12
  t : x.T.length ≤ 6
  b : x.B.length ≤ 6
  sc : ∀ t ∈ S, t.cols.length ≤ 20 ∧ ∀ c ∈ t.cols, c.b.length ≤ 20
  dc : ∀ d ∈ D, d.cols.length ≤ 6
def RetIf17 (w : World) (P : Prop) (e : Ending) (w' : World) : Prop := ∃ b : Bool, e = .returned (.bool b) ∧ (b = true → P) ∧ Below w.heap.size w w'
set_option maxRecDepth 20000 in
set_option maxHeartbeats 4000000 in
theorem small17_any (w : World) (p : Qp) (hp : QpRaw w p) (sa : Option Addr) (S : List Stt) (sc : Nat) (hS : ERow eStt w sa S) (hSr : ∀ t ∈ S, SttRaw w t) (hSl : S.length ≤ sc) (hSm : sc ≤ maxLen)
    (da : Option Addr) (D : List Df) (dc : Nat) (hD : ERow eDf w da D) (hDr : ∀ d ∈ D, DfRaw w d) (hDl : D.length ≤ dc) (hDm : dc ≤ maxLen) :
    Calls Tryz.prog 10 #[p.v, .slice sa S.length sc, .slice da D.length dc] w (RetIf17 w (SmallP p.x S D)) := by
  have HP := Lib.hid hp
  have HS := Lib.hid hS
  have HSR := Lib.hid hSr
  have HD := Lib.hid hD
  have HDR := Lib.hid hDr
  have l1 : p.x.wh.length ≤ 9223372036854775807 := by have := hp.wl; have := hp.wm; unfold maxLen at this; omega
  have l2 : p.x.ord.length ≤ 9223372036854775807 := by have := hp.ol; have := hp.om; unfold maxLen at this; omega
  have l3 : S.length ≤ 9223372036854775807 := by unfold maxLen at hSm; omega
  have l4 : D.length ≤ 9223372036854775807 := by unfold maxLen at hDm; omega
  have l5 : p.x.T.length ≤ 9223372036854775807 := by have := hp.tl; have := hp.tm; unfold maxLen at this; omega
  have l6 : p.x.B.length ≤ 9223372036854775807 := by have := hp.bl; have := hp.bm; unfold maxLen at this; omega
  clear hp hS hSr hSl hSm hD hDr hDl hDm
  go_enter Tryz.func10, Tryz.ntmps10
  go_upto_region 1 with (refine wpList_box_qp rfl (.tmp 0) rfl p rfl ?_; intro W1 hb1 hz1 hB1)
  obtain ⟨g3, hg3⟩ : ∃ g, w.heap.size = g := ⟨_, rfl⟩
  have HB1 := Lib.hid hB1
  rw [hg3] at hb1 ⊢
  have HQ := Lib.hid hb1
  obtain ⟨c0, c1, -, c3, -, c7⟩ := Blk.qp hb1
  clear hz1 hB1 hb1 hg3
  by_cases k1 : 10 < p.x.wh.length
  · have i1 : (10 : Int) < (p.x.wh.length : Int) := by omega
    go_wp2_with fail
    go_ret
    exact ⟨false, rfl, by simp, HB1.out⟩
  have i1 : ¬ (10 : Int) < (p.x.wh.length : Int) := by omega
  by_cases k2 : 6 < p.x.ord.length
  · have i2 : (6 : Int) < (p.x.ord.length : Int) := by omega
    go_wp2_with fail
    go_ret
    exact ⟨false, rfl, by simp, HB1.out⟩
  have i2 : ¬ (6 : Int) < (p.x.ord.length : Int) := by omega
  by_cases k3 : 6 < S.length
  · have i3 : (6 : Int) < (S.length : Int) := by omega
    go_wp2_with fail
    go_ret
    exact ⟨false, rfl, by simp, HB1.out⟩
  have i3 : ¬ (6 : Int) < (S.length : Int) := by omega
  by_cases k4 : 12 < D.length
  · have i4 : (12 : Int) < (D.length : Int) := by omega
    go_wp2_with fail
    go_ret
    exact ⟨false, rfl, by simp, HB1.out⟩
  have i4 : ¬ (12 : Int) < (D.length : Int) := by omega
  by_cases k5 : 6 < p.x.T.length
  · have i5 : (6 : Int) < (p.x.T.length : Int) := by omega
    go_wp2_with fail
    go_ret
    exact ⟨false, rfl, by simp, HB1.out⟩
  have i5 : ¬ (6 : Int) < (p.x.T.length : Int) := by omega
  by_cases k6 : 6 < p.x.B.length
  · have i6 : (6 : Int) < (p.x.B.length : Int) := by omega
    go_wp2_with fail
    go_ret
    exact ⟨false, rfl, by simp, HB1.out⟩
  have i6 : ¬ (6 : Int) < (p.x.B.length : Int) := by omega
  go_upto_region 3 with fail
  go_wp2_with fail
  clear c0 c1 c3 c7
  go_loopw [50] (fun iv wr => ∃ i : Nat, i ≤ p.x.wh.length ∧ iv = .int .i64 (i : Int) ∧ Hid (Below w.heap.size w wr)) (fun iv _ => p.x.wh.length - (intOf iv).toNat)
  case atStart => exact ⟨0, Nat.zero_le _, by go_num, HB1.out⟩
  case round =>
    obtain ⟨i, hi, rfl, HJ⟩ := hrel
    by_cases hlt : i < p.x.wh.length
    · have hii : (i : Int) < (p.x.wh.length : Int) := by omega
      obtain ⟨bb, oo, ha, -, -⟩ := HP.out.wn.at_ hlt
      have HIW : Hid (ERow eNd wr (some ⟨bb, oo, none⟩) p.x.wh) := by show ERow _ _ _ _; rw [← ha]; exact HP.out.wn.below HJ.out
      have HNI := Lib.hid (HP.out.nin _ (List.getElem_mem hlt))
      rw [ha]
      clear ha
      go_upto_region 6 with (first | (refine wpList_load_nd_at rfl (.tmp 52) rfl HIW.out hlt rfl ?_) | (refine wpList_alloc_nd rfl rfl ?_; intro W6 hb6 hz6 hB6) | (refine wpList_store_nd rfl rfl (.tmp 8) (.tmp 53) rfl wr.heap.size rfl p.x.wh[i] rfl hb6 ?_; intro W7 hb7 hg7))
      have HB7 := Lib.hid (below_of_grown (HJ.out.then hB6) hg7 HJ.out.size (Nat.le_trans HJ.out.size hB6.size))
      clear hb6 hz6 hB6 hg7 HIW
      generalize wr.heap.size = g7 at hb7 ⊢
      generalize p.x.wh[i] = n at hb7 HNI
      go_wp2_with (refine wpList_load_nd rfl (.tmp 8) rfl g7 rfl hb7 ?_)
      refine (show Calls _ _ #[n.v, .int .i64 60] _ _ from size17_any w n HNI.out W7 HB7.out 60).mono ?_
      rintro e W8 ⟨r, rfl, hB8⟩
      have HB8 := Lib.hid (HB7.out.then hB8)
      clear hB8 hb7
      by_cases hr : 60 < r
      · go_wp2_with fail
        go_ret
        exact ⟨false, rfl, by simp, HB8.out⟩
      · go_wp2_with fail
        go_roundw
        case rel => exact ⟨i + 1, by omega, by go_num, HB8.out⟩
        case measure => simp [intOf]; omega
    · have hii : ¬ (i : Int) < (p.x.wh.length : Int) := by omega
      go_upto_region 9 with fail
      go_wp2_with fail
      go_loopw [60] (fun iv wr => ∃ i : Nat, i ≤ S.length ∧ iv = .int .i64 (i : Int) ∧ Hid ((∀ t ∈ S.take i, t.cols.length ≤ 20 ∧ ∀ c ∈ t.cols, c.b.length ≤ 20) ∧ Below w.heap.size w wr)) (fun iv _ => S.length - (intOf iv).toNat)
      case atStart => exact ⟨0, Nat.zero_le _, by go_num, by simp, HJ.out⟩
      case round =>
        obtain ⟨i, hi, rfl, HJ⟩ := hrel
        by_cases hlt : i < S.length
        · have hii : (i : Int) < (S.length : Int) := by omega
          obtain ⟨bb, oo, ha, -, -⟩ := HS.out.at_ hlt
          have HIW : Hid (ERow eStt wr (some ⟨bb, oo, none⟩) S) := by show ERow _ _ _ _; rw [← ha]; exact HS.out.below HJ.out.2
          have HTI := Lib.hid (HSR.out _ (List.getElem_mem hlt))
          have HTK : Hid (S.take (i + 1) = S.take i ++ [S[i]]) := List.take_succ_eq_append_getElem hlt
          rw [ha]
          clear ha
          obtain ⟨t, ht⟩ : ∃ t, S[i] = t := ⟨_, rfl⟩
          have HT := Lib.hid ht
          rw [ht] at HTI HTK
          clear ht
          go_upto_region 12 with (first | (refine wpList_load_stt_at rfl (.tmp 62) rfl HIW.out hlt t HT.out rfl ?_) | (refine wpList_alloc_stt rfl rfl ?_; intro W6 hb6 hz6 hB6) | (refine wpList_store_stt rfl rfl (.tmp 10) (.tmp 63) rfl wr.heap.size rfl t rfl hb6 ?_; intro W7 hb7 hg7))
          have HB7 := Lib.hid (below_of_grown (HJ.out.2.then hB6) hg7 HJ.out.2.size (Nat.le_trans HJ.out.2.size hB6.size))
          clear hb6 hz6 hB6 hg7 HIW
          generalize wr.heap.size = g7 at hb7 ⊢
          have tl : t.cols.length ≤ 9223372036854775807 := by have := HTI.out.2.2; unfold maxLen at this; omega
          obtain ⟨-, t1, -⟩ := Blk.c2 hb7
          by_cases h20 : 20 < t.cols.length
          · have i20 : (20 : Int) < (t.cols.length : Int) := by omega
            go_wp2_with fail
            go_ret
            exact ⟨false, rfl, by simp, HB7.out⟩
          · have i20 : ¬ (20 : Int) < (t.cols.length : Int) := by omega
            go_upto_region 14 with fail
            go_wp2_with fail
            clear t1 hb7
            go_loopw [71] (fun jv wq => ∃ j : Nat, j ≤ t.cols.length ∧ jv = .int .i64 (j : Int) ∧ Hid ((∀ c ∈ t.cols.take j, c.b.length ≤ 20) ∧ Below w.heap.size w wq)) (fun jv _ => t.cols.length - (intOf jv).toNat)
            case atStart => exact ⟨0, Nat.zero_le _, by go_num, by simp, HB7.out⟩
            case round =>
              obtain ⟨j, hj, rfl, HK⟩ := hrel
              by_cases hjt : j < t.cols.length
              · have hji : (j : Int) < (t.cols.length : Int) := by omega
                obtain ⟨b2, o2, ha, -, -⟩ := HTI.out.1.at_ hjt
                have HIC : Hid (ERow eCs wr (some ⟨b2, o2, none⟩) t.cols) := by show ERow _ _ _ _; rw [← ha]; exact HTI.out.1.below HK.out.2
                have HCI := Lib.hid (HTI.out.2.1 _ (List.getElem_mem hjt))
                have HTJ : Hid (t.cols.take (j + 1) = t.cols.take j ++ [t.cols[j]]) := List.take_succ_eq_append_getElem hjt
                rw [ha]
                clear ha
                obtain ⟨c, hc⟩ : ∃ c, t.cols[j] = c := ⟨_, rfl⟩
                have HC := Lib.hid hc
                rw [hc] at HCI HTJ
                clear hc
                go_upto_region 17 with (first | (refine wpList_load_cs_is rfl (.tmp 73) rfl HIC.out hjt c HC.out rfl ?_) | (refine wpList_alloc_cs rfl rfl ?_; intro W6 hb6 hz6 hB6) | (refine wpList_store_cs rfl rfl (.tmp 12) (.tmp 74) rfl wr.heap.size rfl c rfl hb6 ?_; intro W7 hb7 hg7))
                have HB8 := Lib.hid (below_of_grown (HK.out.2.then hB6) hg7 HK.out.2.size (Nat.le_trans HK.out.2.size hB6.size))
                clear hb6 hz6 hB6 hg7 HIC
                generalize wr.heap.size = g8 at hb7 ⊢
                have cl : c.b.length ≤ 9223372036854775807 := by have := HCI.out.2; unfold maxLen at this; omega
                have q2 := hb7.cell 2
                simp only [Cs.cells, List.getElem?_cons_zero, List.getElem?_cons_succ] at q2
                by_cases h2 : 20 < c.b.length
                · have i2 : (20 : Int) < (c.b.length : Int) := by omega
                  go_wp2_with fail
                  go_ret
                  exact ⟨false, rfl, by simp, HB8.out⟩
                · have i2 : ¬ (20 : Int) < (c.b.length : Int) := by omega
                  go_wp2_with fail
                  go_roundw
                  case rel =>
                    refine ⟨j + 1, by omega, by go_num, ?_, HB8.out⟩
                    intro u hu
                    rw [HTJ.out] at hu
                    rcases List.mem_append.1 hu with hu | hu
                    · exact HK.out.1 u hu
                    · rw [List.mem_singleton.1 hu]; omega
                  case measure => simp [intOf]; omega
              · have hji : ¬ (j : Int) < (t.cols.length : Int) := by omega
                have HALL : Hid (∀ c ∈ t.cols, c.b.length ≤ 20) := by
                  have := HK.out.1
                  rw [List.take_of_length_le (by omega)] at this
                  exact this
                go_wp2_with fail
                go_roundw
                case rel =>
                  refine ⟨i + 1, by omega, by go_num, ?_, HK.out.2⟩
                  intro u hu
                  rw [HTK.out] at hu
                  rcases List.mem_append.1 hu with hu | hu
                  · exact HJ.out.1 u hu
                  · rw [List.mem_singleton.1 hu]; exact ⟨by omega, HALL.out⟩
                case measure => simp [intOf]; omega
        · have hii : ¬ (i : Int) < (S.length : Int) := by omega
          have HSS : Hid (∀ t ∈ S, t.cols.length ≤ 20 ∧ ∀ c ∈ t.cols, c.b.length ≤ 20) := by
            have := HJ.out.1
            rw [List.take_of_length_le (by omega)] at this
            exact this
          go_upto_region 21 with fail
          go_wp2_with fail
          go_loopw [83] (fun iv wr => ∃ i : Nat, i ≤ D.length ∧ iv = .int .i64 (i : Int) ∧ Hid ((∀ d ∈ D.take i, d.cols.length ≤ 6) ∧ Below w.heap.size w wr)) (fun iv _ => D.length - (intOf iv).toNat)
          case atStart => exact ⟨0, Nat.zero_le _, by go_num, by simp, HJ.out.2⟩
          case round =>
            obtain ⟨i, hi, rfl, HJ⟩ := hrel
            by_cases hlt : i < D.length
            · have hii : (i : Int) < (D.length : Int) := by omega
              obtain ⟨bb, oo, ha, -, -⟩ := HD.out.at_ hlt
              have HIW : Hid (ERow eDf wr (some ⟨bb, oo, none⟩) D) := by show ERow _ _ _ _; rw [← ha]; exact HD.out.below HJ.out.2
              have HDI := Lib.hid (HDR.out _ (List.getElem_mem hlt))
              have HTK : Hid (D.take (i + 1) = D.take i ++ [D[i]]) := List.take_succ_eq_append_getElem hlt
              rw [ha]
              clear ha
              obtain ⟨d, hd⟩ : ∃ d, D[i] = d := ⟨_, rfl⟩
              have HDD := Lib.hid hd
              rw [hd] at HDI HTK
              clear hd
              go_upto_region 24 with (first | (refine wpList_load_df_at rfl (.tmp 85) rfl HIW.out hlt d HDD.out rfl ?_) | (refine wpList_alloc_df rfl rfl ?_; intro W6 hb6 hz6 hB6) | (refine wpList_store_df rfl rfl (.tmp 14) (.tmp 86) rfl wr.heap.size rfl d rfl hb6 ?_; intro W7 hb7 hg7))
              have HB7 := Lib.hid (below_of_grown (HJ.out.2.then hB6) hg7 HJ.out.2.size (Nat.le_trans HJ.out.2.size hB6.size))
              clear hb6 hz6 hB6 hg7 HIW
              generalize wr.heap.size = g7 at hb7 ⊢
              have dl : d.cols.length ≤ 9223372036854775807 := by have := HDI.out.2.2; unfold maxLen at this; omega
              have t1 := hb7.cell 1
              simp only [Df.cells, List.getElem?_cons_zero, List.getElem?_cons_succ] at t1
              by_cases h6 : 6 < d.cols.length
              · have i6' : (6 : Int) < (d.cols.length : Int) := by omega
                go_wp2_with fail
                go_ret
                exact ⟨false, rfl, by simp, HB7.out⟩
              · have i6' : ¬ (6 : Int) < (d.cols.length : Int) := by omega
                go_wp2_with fail
                go_roundw
                case rel =>
                  refine ⟨i + 1, by omega, by go_num, ?_, HB7.out⟩
                  intro u hu
                  rw [HTK.out] at hu
                  rcases List.mem_append.1 hu with hu | hu
                  · exact HJ.out.1 u hu
                  · rw [List.mem_singleton.1 hu]; omega
                case measure => simp [intOf]; omega
            · have hii : ¬ (i : Int) < (D.length : Int) := by omega
              have HDDD : Hid (∀ d ∈ D, d.cols.length ≤ 6) := by
                have := HJ.out.1
                rw [List.take_of_length_le (by omega)] at this
                exact this
              go_wp2_with fail
              go_ret
              exact ⟨true, rfl, fun _ => ⟨by omega, by omega, by omega, by omega, by omega, by omega, HSS.out, HDDD.out⟩, HJ.out.2⟩
end Go.Proofs.YtjdffhonljhpcaaGreat
end

section
/-
  The contract of the planner's laws' lives.
-/
namespace Go.Proofs.YtjdffhonljhpcaaGreat
set_option linter.unusedSimpArgs false
set_option linter.unusedVariables false
open Go.RowKit

def Qp.nul : Qp := ⟨⟨[], [], 0, [], false, [], [], [], []⟩, none, 0, none, 0, none, 0, none, [], 0, none, [], 0, none, 0, 0⟩
theorem qp_zero (W : World) : (zeroValue 36).run Tryz.prog W = .ok Qp.nul.v W := (zero_of_info (P := Tryz.prog) (t := 36) (v := Qp.nul.v) (n := 9) (by kernel_rfl)).1 W
section
variable {w : World} {ops : Array Oper} {rest : List Oper} {o : Oper} {a : Act} {Q : Exit → Act → World → Prop}
theorem wpList_alloc_qp (hgd : o.guard = none) (hop : o.op = .alloc 36)
    (h : ∀ W, Blk W w.heap.size 36 Qp.nul.cells → w.heap.size + 1 ≤ W.heap.size → Below w.heap.size w W → wpList Tryz.prog ops Q rest (a.put o.dst (.pointer (some ⟨w.heap.size, 0, none⟩))) W) : wpList Tryz.prog ops Q (o :: rest) a w :=
  wpList_alloc_z hgd 36 hop (qp_zero _) fun W hW => by
    obtain ⟨h1, h2, h3⟩ := fresh1 (a := Qp.nul.cells) hW
    exact h W h1 h2 h3
theorem wpList_store_qp (hgd : o.guard = none) (hod : o.dst = none) (x y : Operand) (hop : o.op = .store 36 x y) (g : Nat) (hx : a.eval x = .pointer (some ⟨g, 0, none⟩)) (b : Qp) (hy : a.eval y = b.v) {T0 : TypeId} {old : Qp} (hb : Blk w g T0 old.cells)
    (h : ∀ W, Blk W g T0 b.cells → w.grownBy W (some g) → wpList Tryz.prog ops Q rest a W) : wpList Tryz.prog ops Q (o :: rest) a w :=
  wpList_store_blk hgd hod 36 x y hop g hx b.cells hy hb rfl qp_info (by
    intro u hu
    simp [Qp.cells] at hu
    rcases hu with rfl | rfl | rfl | rfl | rfl | rfl | rfl | rfl | rfl <;> rfl) h
end
namespace L17
def na : Nd := .mk 2 [] Key.nul 0 false 1 none [] 0
def nb : Nd := .mk 1 [] ⟨1, 5, 0, []⟩ 0 false 0 none [] 0
def nn (g : Nat) : Nd := .mk 7 [61] Key.nul 0 false 0 (some ⟨g, 0, none⟩) [na, nb] 2
def ca : Cs := ⟨500, 0, none, [], 0⟩
def px (gn gd : Nat) : Pn.PX := ⟨[0], [0], 2, [nn gn], false, [], [⟨0, some ⟨gd, 0, none⟩, [0], 1, false⟩], [1000, 1000], [ca, Cs.nul]⟩
def qp (x : Pn.PX) (gt gb gw : Nat) : Qp := ⟨x, some ⟨gt, 0, none⟩, 1, some ⟨gb, 0, none⟩, 1, some ⟨gw, 0, none⟩, 1, none, [], 0, none, [], 0, none, 0, -1⟩
def st (g : Nat) : Stt := ⟨1000, some ⟨g, 0, none⟩, [ca, Cs.nul], 2⟩
theorem ok (gn gd : Nat) : Pn.chOk (px gn gd) 1 = true := by kernel_rfl
theorem op (gn gd : Nat) : (Pn.choose (px gn gd)).op = 2 := by kernel_rfl
theorem cost (gn gd : Nat) : (Pn.choose (px gn gd)).cost = 52 := by kernel_rfl
theorem rows (gn gd : Nat) : (Pn.choose (px gn gd)).rows = 2 := by kernel_rfl
theorem eq (gn gd : Nat) : (Pn.choose (px gn gd)).eq.length = 1 := by kernel_rfl
theorem fill (gn gd g : Nat) : Pn.fillT (px gn gd) 0 [st g] ([], []) = ((px gn gd).rows, (px gn gd).cols) := by kernel_rfl
end L17
namespace Pm
theorem e_rows (p : Pm) : p.e.rows = p.rows := by cases p; rfl
theorem e_eql (p : Pm) : p.e.eq = p.eq := by cases p; rfl
end Pm
set_option maxRecDepth 100000 in
set_option maxHeartbeats 8000000 in
theorem plives_any (w : World) : Calls Tryz.prog 5 #[] w fun e w' => e = .returned (.bool true) ∧ Below w.heap.size w w' := by
  go_enter Tryz.func5, Tryz.ntmps5
  go_upto_region 2 with (first | (refine wpList_alloc_nd rfl rfl ?_; intro W1 hb1 hz1 hB1) | (refine wpList_store_nd rfl rfl (.tmp 1) (.tmp 6) rfl w.heap.size rfl L17.na rfl hb1 ?_; intro W2 hb2 hg2))
  have HB2 := Lib.hid (below_of_grown hB1 hg2 (Nat.le_refl _) hB1.size)
  clear hb1 hz1 hB1 hg2
  generalize w.heap.size = g1 at hb2 ⊢
  go_upto_region 3 with (first
    | (generalize hWa : ((World.alloc W2 (.cells _ _)).alloc (.cells _ _)) = W3; obtain ⟨ba3, bb3, hz3, hB3⟩ := fresh2 hWa; clear hWa; refine wpList_load_nd rfl (.tmp 1) rfl g1 rfl (hb2.below hB3) ?_)
    | (generalize hWb : ((World.alloc W3 (.cells _ _)).alloc (.cells _ _)) = W4; obtain ⟨ba4, bb4, hz4, hB4⟩ := fresh2 hWb; clear hWb; refine wpList_alloc_qp rfl rfl ?_; intro W5 hb5 hz5 hB5)
    | (refine wpList_store_qp rfl rfl (.tmp 2) (.tmp 15) rfl _ rfl (L17.qp (L17.px W3.heap.size 0) W2.heap.size (W2.heap.size + 1) (W3.heap.size + 1)) rfl hb5 ?_; intro W6 hb6 hg6))
  have z2 := HB2.out.size
  have HB6 := Lib.hid (below_of_grown (((HB2.out.then hB3).then hB4).then hB5) hg6 (by omega) (by omega))
  have HT6 : Hid (Blk W6 W2.heap.size 3 [.int .i64 0] ∧ Blk W6 (W2.heap.size + 1) 3 [.int .i64 0] ∧ Blk W6 W3.heap.size 27 (L17.na.cells ++ L17.nb.cells) ∧ Blk W6 (W3.heap.size + 1) 27 (L17.nn W3.heap.size).cells) := by
    refine ⟨((ba3.below hB4).below hB5).grown hg6 ?_, ((bb3.below hB4).below hB5).grown hg6 ?_, (ba4.below hB5).grown hg6 ?_, (bb4.below hB5).grown hg6 ?_⟩ <;> (simp only [ne_eq, Option.some.injEq]; omega)
  have HQ6 := Lib.hid hb6
  have hz6 : W2.heap.size < W6.heap.size := by have := hb6.lt; omega
  clear hb2 ba3 bb3 hz3 hB3 ba4 bb4 hz4 hB4 hb5 hz5 hB5 hb6 hg6 z2
  obtain ⟨g4, hg4⟩ : ∃ g, W4.heap.size = g := ⟨_, rfl⟩
  obtain ⟨gt, hgt⟩ : ∃ g, W2.heap.size = g := ⟨_, rfl⟩
  obtain ⟨gn, hgn⟩ : ∃ g, W3.heap.size = g := ⟨_, rfl⟩
  rw [hg4] at HQ6
  rw [hgt, hgn] at HQ6 HT6
  rw [hg4]
  clear hg4 hgt hgn hz6 HB2
  go_upto_region 4 with (first
    | (generalize hWc : (World.alloc W6 (.cells _ _)) = W7; obtain ⟨ba7, hz7, hB7⟩ := fresh1 hWc; clear hWc; refine wpList_alloc_stt rfl rfl ?_; intro W8 hb8 hz8 hB8)
    | (refine wpList_store_stt rfl rfl (.tmp 3) (.tmp 19) rfl _ rfl (L17.st W6.heap.size) rfl hb8 ?_; intro W9 hb9 hg9))
  have z6 := HB6.out.size
  have hB69 : Below W6.heap.size W6 W9 := below_of_grown (hB7.then hB8) hg9 (by omega) (by omega)
  have HB9 := Lib.hid (HB6.out.then hB69)
  have HT9 : Hid (Blk W9 gt 3 [.int .i64 0] ∧ Blk W9 (gt + 1) 3 [.int .i64 0] ∧ Blk W9 gn 27 (L17.na.cells ++ L17.nb.cells) ∧ Blk W9 (gn + 1) 27 (L17.nn gn).cells) :=
    ⟨HT6.out.1.below hB69, HT6.out.2.1.below hB69, HT6.out.2.2.1.below hB69, HT6.out.2.2.2.below hB69⟩
  have HQ9 := Lib.hid (HQ6.out.below hB69)
  have HC9 : Hid (Blk W9 W6.heap.size 51 (L17.ca.cells ++ Cs.nul.cells)) := (ba7.below hB8).grown hg9 (by simp only [ne_eq, Option.some.injEq]; omega)
  have HS9 := Lib.hid hb9
  clear HT6 HQ6 HB6 ba7 hz7 hB7 hb8 hz8 hB8 hg9 z6 hB69 hb9
  obtain ⟨s0, s1, -⟩ := Blk.c2 HS9.out
  obtain ⟨gc, hgc⟩ : ∃ g, W6.heap.size = g := ⟨_, rfl⟩
  obtain ⟨gs, hgs⟩ : ∃ g, W7.heap.size = g := ⟨_, rfl⟩
  rw [hgs] at s0 s1
  rw [hgc] at HC9 s1
  rw [hgs]
  have s1 : W9.cell? ⟨gs, 1, none⟩ = some (.slice (some ⟨gc, 0, none⟩) 2 2) := s1
  have s0 : W9.cell? ⟨gs, 0, none⟩ = some (.int .i64 1000) := s0
  clear hgc hgs HS9
  go_wp2_with (refine wpList_load_qp0 rfl (.tmp 2) rfl g4 rfl HQ9.out ?_)
  generalize hW10 : (((World.alloc W9 (.cells _ _)).alloc (.cells _ _)).alloc (.cells _ _)) = W10
  obtain ⟨ba10, bb10, bc10, hz10, hB10⟩ := fresh3 hW10
  clear hW10
  have HQ : Hid (QpIn W10 (L17.qp (L17.px gn (W9.heap.size + 1)) gt (gt + 1) (gn + 1))) := by
    have hna : NodeIn W10 L17.na := NodeIn.mk ERow.nil (by intro m hm; cases hm) Ev.nul_ok (Nat.zero_le _) ⟨by decide, by decide⟩ ⟨by decide, by decide⟩ (Nat.le_refl _) (Nat.zero_le _)
    have hnb : NodeIn W10 L17.nb := NodeIn.mk ERow.nil (by intro m hm; cases hm) ⟨by decide, by decide, by decide, by decide, by decide⟩ (Nat.zero_le _) ⟨by decide, by decide⟩ ⟨by decide, by decide⟩ (Nat.le_refl _) (Nat.zero_le _)
    have hnn : NodeIn W10 (L17.nn gn) := NodeIn.mk (Blk.row eNd (HT9.out.2.2.1.below hB10) [L17.na, L17.nb] rfl (by simp [maxLen])) (by
      intro m hm
      rcases List.mem_cons.1 hm with rfl | hm
      · exact hna
      · rw [List.mem_singleton.1 hm]; exact hnb) Ev.nul_ok (Nat.zero_le _) (show Ev.inB 7 from ⟨by decide, by decide⟩) (show Ev.inB 0 from ⟨by decide, by decide⟩) (by show 2 ≤ 2; decide) (by show 2 ≤ maxLen; decide)
    exact ⟨Blk.row eInt (HT9.out.1.below hB10) [0] rfl (by simp [maxLen]), (by intro n hn; rw [List.mem_singleton.1 hn]; exact ⟨by decide, by decide⟩), (by show 1 ≤ 1000000; decide),
      Blk.row eInt (HT9.out.2.1.below hB10) [0] rfl (by simp [maxLen]), (by intro n hn; rw [List.mem_singleton.1 hn]; exact ⟨by decide, by decide⟩), (by show 1 ≤ 1000000; decide), (show Ev.inB 2 from ⟨by decide, by decide⟩),
      Blk.row eNd (HT9.out.2.2.2.below hB10) [L17.nn gn] rfl (by simp [maxLen]), (by intro n hn; rw [List.mem_singleton.1 hn]; exact hnn), (by show 1 ≤ 1000000; decide), ERow.nil, (by intro n hn; cases hn), Nat.zero_le _⟩
  have HS : Hid (SttsIn W10 (some ⟨W9.heap.size, 0, none⟩) [L17.st gc]) :=
    ⟨Blk.row eStt ba10 [L17.st gc] rfl (by simp [maxLen]), (by
      intro t ht
      rw [List.mem_singleton.1 ht]
      refine ⟨Blk.row eCs (HC9.out.below hB10) [L17.ca, Cs.nul] rfl (by simp [maxLen]), ?_, (by show 2 ≤ 100; decide), ?_⟩
      · intro x hx
        rcases List.mem_cons.1 hx with rfl | hx
        · exact ERow.nil
        · rw [List.mem_singleton.1 hx]; exact ERow.nil
      · intro x hx
        rcases List.mem_cons.1 hx with rfl | hx
        · exact Nat.zero_le _
        · rw [List.mem_singleton.1 hx]; exact Nat.zero_le _), (by show 1 ≤ 1000; decide)⟩
  have HD : Hid (DfsIn W10 (some ⟨W9.heap.size + 1 + 1, 0, none⟩) [⟨0, some ⟨W9.heap.size + 1, 0, none⟩, [0], 1, false⟩]) :=
    ⟨Blk.row eDf bc10 [⟨0, some ⟨W9.heap.size + 1, 0, none⟩, [0], 1, false⟩] rfl (by simp [maxLen]), (by intro d hd; rw [List.mem_singleton.1 hd]; exact Blk.row eInt bb10 [0] rfl (by simp [maxLen])), (by intro d hd; rw [List.mem_singleton.1 hd]; show 1 ≤ 1000; decide),
      (by intro d hd c hc; rw [List.mem_singleton.1 hd] at hc; rw [List.mem_singleton.1 hc]; exact ⟨by decide, by decide⟩), (by intro d hd; rw [List.mem_singleton.1 hd]; exact ⟨Nat.le_refl 1, by show 1 ≤ maxLen; decide⟩), (by show 1 ≤ 1000; decide)⟩
  have HB10 := Lib.hid (HB9.out.then hB10)
  have HC := Lib.hid (plchoose_any W10 _ HQ.out (by show 1 ≤ 1000; decide) _ [L17.st gc] 1 HS.out _ 1 HD.out (L17.fill _ _ _))
  clear ba10 bb10 bc10 hz10 hB10 HT9 HQ9 HC9 HB9 s0 s1 HQ HS HD
  refine (show Calls _ _ _ _ _ from HC.out).mono ?_
  rintro e W11 ⟨m, er, rfl, hB, -, hc⟩
  obtain ⟨rfl, he⟩ : er = 0 ∧ m.e = Pn.choose (L17.px gn (W9.heap.size + 1)) := by
    rcases hc with ⟨-, h1, h2⟩ | ⟨h1, -⟩
    · exact ⟨h1, h2⟩
    · exact absurd (h1.symm.trans (L17.ok _ _)) (by decide)
  have HOP : Hid (m.op = 2 ∧ m.cost = 52 ∧ m.rows = 2 ∧ m.eq.length = 1) := by
    refine ⟨?_, ?_, ?_, ?_⟩
    · rw [← Pm.e_op, he]; exact L17.op _ _
    · rw [← Pm.e_cost, he]; exact L17.cost _ _
    · rw [← Pm.e_rows, he]; exact L17.rows _ _
    · rw [← Pm.e_eql, he]; exact L17.eq _ _
  have HB11 := Lib.hid (HB10.out.then hB)
  clear hB hc he HC HB10
  go_upto_region 5 with (first | (refine wpList_alloc_pm rfl rfl ?_; intro W12 hb12 hz12 hB12) | (refine wpList_store_pm rfl rfl (.tmp 4) (.tmp 28) rfl _ rfl m rfl hb12 ?_; intro W13 hb13 hg13))
  have z11 := HB11.out.size
  have HB13 := Lib.hid (below_of_grown (HB11.out.then hB12) hg13 (by omega) (by omega))
  obtain ⟨p0, -, -, p3, -, -, p6, p7, -⟩ := Blk.pm hb13
  rw [HOP.out.1] at p0
  rw [HOP.out.2.1] at p6
  rw [HOP.out.2.2.1] at p7
  rw [HOP.out.2.2.2] at p3
  clear hb12 hz12 hB12 hb13 hg13 z11 HB11
  generalize W11.heap.size = gp at p0 p3 p6 p7 ⊢
  go_wp2_with fail
  go_ret
  exact ⟨rfl, HB13.out⟩
end Go.Proofs.YtjdffhonljhpcaaGreat
end

section
/-
  The contracts of both Value, and of Same at a node and itself.
-/
namespace Go.Proofs.YtjdffhonljhpcaaGreat
set_option linter.unusedSimpArgs false
set_option linter.unusedVariables false
open Go.RowKit

namespace Pn
end Pn
theorem NodeIn.kids {w : World} {n : Nd} (h : NodeIn w n) : ∀ m ∈ n.args, NodeIn w m := by cases h with | mk h1 h2 => exact h2
theorem NodeIn.row {w : World} {n : Nd} (h : NodeIn w n) : ERow eNd w n.a n.args := by cases h with | mk h1 => exact h1
theorem NodeIn.nil (w : World) : NodeIn w Nd.nil := NodeIn.mk ERow.nil (by intro m hm; cases hm) Ev.nul_ok (Nat.zero_le _) (show Ev.inB 0 from ⟨by decide, by decide⟩) (show Ev.inB 0 from ⟨by decide, by decide⟩) (Nat.le_refl _) (Nat.zero_le _)
/-- The cells of a node in a row. -/
theorem nd_cells {w : World} {b o : Nat} {L : List Nd} (h : ERow eNd w (some ⟨b, o, none⟩) L) {j : Nat} (hj : j < L.length) (n : Nd) (hn : L[j] = n) :
    w.cell? ⟨b, o + j * 10, none⟩ = some (.int .i64 n.k) ∧ w.cell? ⟨b, o + j * 10 + 1, none⟩ = some (txt n.op) ∧ w.cell? ⟨b, o + j * 10 + 2, none⟩ = some (.int .i64 n.lit.k) ∧ w.cell? ⟨b, o + j * 10 + 3, none⟩ = some (.int .i64 n.lit.n) ∧ w.cell? ⟨b, o + j * 10 + 4, none⟩ = some (.float .f64 n.lit.f) ∧
    w.cell? ⟨b, o + j * 10 + 5, none⟩ = some (txt n.lit.s) ∧ w.cell? ⟨b, o + j * 10 + 6, none⟩ = some (.int .i64 n.at_) ∧ w.cell? ⟨b, o + j * 10 + 7, none⟩ = some (.bool n.no) ∧ w.cell? ⟨b, o + j * 10 + 8, none⟩ = some (.int .i64 n.ty) ∧ w.cell? ⟨b, o + j * 10 + 9, none⟩ = some (.slice n.a n.args.length n.c) := by
  subst hn
  obtain ⟨b', o', e, -, hc⟩ := h.at_ hj
  cases e
  exact ⟨hc 0 _ rfl, hc 1 _ rfl, hc 2 _ rfl, hc 3 _ rfl, hc 4 _ rfl, hc 5 _ rfl, hc 6 _ rfl, hc 7 _ rfl, hc 8 _ rfl, hc 9 _ rfl⟩
end Go.Proofs.YtjdffhonljhpcaaGreat
end

section
/-
  A plan that is chosen is right, and stays so when an index more is told behind the others; plain.
-/
namespace Go.Proofs.YtjdffhonljhpcaaGreat
set_option linter.unusedSimpArgs false
set_option linter.unusedVariables false
namespace Pn
abbrev defAt (x : PX) (p : Pl) : Df := x.defs.getD p.ix.toNat ⟨0, none, [], 0, false⟩
/-- The parts of Where that a plan uses are as it says. -/
structure UsesOk (x : PX) (p : Pl) (given : Nat) : Prop where
  f0 : 0 ≤ p.fr
  f1 : p.fr < (x.T.length : Int)
  i0 : 0 ≤ p.ix
  i1 : p.ix < (x.defs.length : Int)
  fit : fitsD x p.fr.toNat (defAt x p) = true
  len : p.eq.length ≤ (defAt x p).cols.length
  look : p.op = 4 → p.eq ≠ [] ∧ p.low < 0 ∧ p.high < 0
  eqs : ∀ i k, p.eq[i]? = some k → 0 ≤ k ∧ k < (x.wh.length : Int) ∧ agst x (x.wh.getD k.toNat Nd.nil) (b x p.fr.toNat + (defAt x p).cols.getD i 0) given [[61]] = true
  low : p.low < 0 ∨ 0 ≤ p.low ∧ p.low < (x.wh.length : Int) ∧ p.eq.length < (defAt x p).cols.length ∧ agst x (x.wh.getD p.low.toNat Nd.nil) (b x p.fr.toNat + (defAt x p).cols.getD p.eq.length 0) 0 opGt = true
  high : p.high < 0 ∨ 0 ≤ p.high ∧ p.high < (x.wh.length : Int) ∧ p.eq.length < (defAt x p).cols.length ∧ agst x (x.wh.getD p.high.toNat Nd.nil) (b x p.fr.toNat + (defAt x p).cols.getD p.eq.length 0) 0 opLt = true
/-- A right plan: of what depth at most, and the tables it reads. -/
inductive Good (x : PX) : Nat → Pl → Nat → Prop
  | seq {d : Nat} {p : Pl} : p.op = 1 → p.kids = [] → 0 ≤ p.fr → p.fr < (x.T.length : Int) → Good x (d + 1) p (2 ^ p.fr.toNat)
  | range {d : Nat} {p : Pl} : p.op = 2 → p.kids = [] → UsesOk x p 0 → Good x (d + 1) p (2 ^ p.fr.toNat)
  | loop {d : Nat} {p l r : Pl} {ml mr : Nat} : p.op = 3 → p.kids = [l, r] → Good x d l ml → Good x d r mr → ml &&& mr = 0 → Good x (d + 1) p (ml ||| mr)
  | lookup {d : Nat} {p l : Pl} {ml : Nat} : p.op = 4 → p.kids = [l] → Good x d l ml → ml.testBit p.fr.toNat = false → UsesOk x p ml → Good x (d + 1) p (ml ||| 2 ^ p.fr.toNat)
  | sort {d : Nat} {p k : Pl} {m : Nat} : p.op = 5 → p.kids = [k] → Good x d k m → Good x (d + 1) p m
theorem Good.mono {x : PX} {d : Nat} {p : Pl} {m : Nat} (h : Good x d p m) : ∀ {d' : Nat}, d ≤ d' → Good x d' p m := by
  induction h with
  | seq h1 h2 h3 h4 => intro d' hd; obtain ⟨e, rfl⟩ : ∃ e, d' = e + 1 := ⟨d' - 1, by omega⟩; exact .seq h1 h2 h3 h4
  | range h1 h2 h3 => intro d' hd; obtain ⟨e, rfl⟩ : ∃ e, d' = e + 1 := ⟨d' - 1, by omega⟩; exact .range h1 h2 h3
  | loop h1 h2 h3 h4 h5 i3 i4 => intro d' hd; obtain ⟨e, rfl⟩ : ∃ e, d' = e + 1 := ⟨d' - 1, by omega⟩; exact .loop h1 h2 (i3 (by omega)) (i4 (by omega)) h5
  | lookup h1 h2 h3 h4 h5 i3 => intro d' hd; obtain ⟨e, rfl⟩ : ∃ e, d' = e + 1 := ⟨d' - 1, by omega⟩; exact .lookup h1 h2 (i3 (by omega)) h4 h5
  | sort h1 h2 h3 i3 => intro d' hd; obtain ⟨e, rfl⟩ : ∃ e, d' = e + 1 := ⟨d' - 1, by omega⟩; exact .sort h1 h2 (i3 (by omega))
theorem UsesOk.more {x : PX} {D : List Df} {e : Df} {p : Pl} {g : Nat} (h : UsesOk (wd x D) p g) : UsesOk (wd x (D ++ [e])) p g := by
  have hd : defAt (wd x (D ++ [e])) p = defAt (wd x D) p := by
    show (D ++ [e]).getD p.ix.toNat _ = D.getD p.ix.toNat _
    have hi : p.ix.toNat < D.length := by have := h.i0; have : p.ix < (D.length : Int) := h.i1; omega
    simp [List.getD, List.getElem?_append_left hi]
  refine ⟨h.f0, h.f1, h.i0, ?_, ?_, ?_, h.look, ?_, ?_, ?_⟩
  · have : p.ix < (D.length : Int) := h.i1
    show p.ix < ((D ++ [e]).length : Int)
    rw [List.length_append]
    simp
    omega
  · rw [hd]; exact h.fit
  · rw [hd]; exact h.len
  · rw [hd]
    intro i k hk
    obtain ⟨a, b, c⟩ := h.eqs i k hk
    rw [agst_wd] at c ⊢
    exact ⟨a, b, c⟩
  · rw [hd]
    have := h.low
    rw [agst_wd] at this ⊢
    exact this
  · rw [hd]
    have := h.high
    rw [agst_wd] at this ⊢
    exact this
theorem Good.more {x : PX} {D : List Df} {e : Df} {d : Nat} {p : Pl} {m : Nat} (h : Good (wd x D) d p m) : Good (wd x (D ++ [e])) d p m := by
  induction h with
  | seq h1 h2 h3 h4 => exact .seq h1 h2 h3 h4
  | range h1 h2 h3 => exact .range h1 h2 h3.more
  | loop h1 h2 h3 h4 h5 i3 i4 => exact .loop h1 h2 i3 i4 h5
  | lookup h1 h2 h3 h4 h5 i3 => exact .lookup h1 h2 i3 h4 h5.more
  | sort h1 h2 h3 i3 => exact .sort h1 h2 i3
theorem Good.op {x : PX} {d : Nat} {p : Pl} {m : Nat} (h : Good x d p m) : p.op ≠ 0 := by
  cases h <;> omega
theorem Good.nz {x : PX} {d : Nat} {p : Pl} {m : Nat} (h : Good x d p m) : PlNz p := by
  induction h with
  | seq h1 h2 h3 h4 => exact .mk (by rw [h2]; intro k hk; cases hk) (by rw [h2]; intro k hk; cases hk)
  | range h1 h2 h3 => exact .mk (by rw [h2]; intro k hk; cases hk) (by rw [h2]; intro k hk; cases hk)
  | loop h1 h2 h3 h4 h5 i3 i4 =>
    refine .mk ?_ ?_ <;> rw [h2] <;> intro k hk <;> rcases List.mem_cons.1 hk with rfl | hk
    · exact h3.op
    · rw [List.mem_singleton.1 hk]; exact h4.op
    · exact i3
    · rw [List.mem_singleton.1 hk]; exact i4
  | lookup h1 h2 h3 h4 h5 i3 =>
    refine .mk ?_ ?_ <;> rw [h2] <;> intro k hk <;> rw [List.mem_singleton.1 hk]
    · exact h3.op
    · exact i3
  | sort h1 h2 h3 i3 =>
    refine .mk ?_ ?_ <;> rw [h2] <;> intro k hk <;> rw [List.mem_singleton.1 hk]
    · exact h3.op
    · exact i3
theorem Good.lt {x : PX} (h4 : x.T.length ≤ 4) {d : Nat} {p : Pl} {m : Nat} (h : Good x d p m) : m < 16 := by
  have hp : ∀ f : Int, 0 ≤ f → f < (x.T.length : Int) → 2 ^ f.toNat < 16 := fun f h0 h1 => Nat.pow_lt_pow_right (by omega : 1 < 2) (show f.toNat < 4 by omega)
  induction h with
  | seq h1 h2 h3 h4 => exact hp _ h3 h4
  | range h1 h2 h3 => exact hp _ h3.f0 h3.f1
  | loop h1 h2 h3 h4 h5 i3 i4 => exact or16 _ i3 _ i4
  | lookup h1 h2 h3 h4 h5 i3 => exact or16 _ i3 _ (hp _ h5.f0 h5.f1)
  | sort h1 h2 h3 i3 => exact i3

/-! ### what idx, eqN and bound find -/
theorem idxF_ok {x : PX} {at_ : Int} {g : Nat} {ops : List (List UInt8)} : ∀ (L : List Nd) (i : Nat), L = x.wh.drop i → 0 ≤ idxF x at_ g ops i L → idxF x at_ g ops i L < (x.wh.length : Int) ∧ agst x (x.wh.getD (idxF x at_ g ops i L).toNat Nd.nil) at_ g ops = true
  | [], i, _, h => by unfold idxF at h; omega
  | n :: L, i, hL, h => by
    obtain ⟨h1, h2⟩ := drop_cons hL
    unfold idxF at h ⊢
    by_cases hn : agst x n at_ g ops = true
    · rw [if_pos hn]
      have := (List.getElem?_eq_some_iff.1 h1).1
      refine ⟨by omega, ?_⟩
      rw [Int.toNat_natCast, List.getD_eq_getElem?_getD, h1]
      exact hn
    · rw [if_neg hn] at h ⊢
      exact idxF_ok L (i + 1) h2 h
theorem idx_ok {x : PX} {at_ : Int} {g : Nat} {ops : List (List UInt8)} (h : 0 ≤ idx x at_ g ops) : idx x at_ g ops < (x.wh.length : Int) ∧ agst x (x.wh.getD (idx x at_ g ops).toNat Nd.nil) at_ g ops = true := idxF_ok x.wh 0 rfl h
theorem eqF_ok {x : PX} {f g : Nat} : ∀ (L out : List Int), ∃ m, eqF x f g L out = out ++ (L.take m).map (fun c => idx x (b x f + c) g [[61]]) ∧ ∀ c ∈ L.take m, 0 ≤ idx x (b x f + c) g [[61]]
  | [], out => ⟨0, by simp [eqF], by simp⟩
  | c :: L, out => by
    unfold eqF
    by_cases h : idx x (b x f + c) g [[61]] < 0
    · rw [if_pos h]
      exact ⟨0, by simp, by simp⟩
    · rw [if_neg h]
      obtain ⟨m, e, hm⟩ := eqF_ok L (out ++ [idx x (b x f + c) g [[61]]])
      refine ⟨m + 1, by rw [e]; simp, ?_⟩
      intro y hy
      rw [List.take_succ_cons] at hy
      rcases List.mem_cons.1 hy with rfl | hy
      · omega
      · exact hm y hy
theorem eqN_ok {x : PX} {f g : Nat} {d : Df} {i : Nat} {k : Int} (h : (eqN x f d g)[i]? = some k) : 0 ≤ k ∧ k < (x.wh.length : Int) ∧ agst x (x.wh.getD k.toNat Nd.nil) (b x f + d.cols.getD i 0) g [[61]] = true := by
  obtain ⟨m, e, hm⟩ := eqF_ok (x := x) (f := f) (g := g) d.cols []
  have e2 : eqN x f d g = (d.cols.take m).map (fun c => idx x (b x f + c) g [[61]]) := by
    show eqF x f g d.cols [] = _
    rw [e]; rfl
  rw [e2, List.getElem?_map] at h
  cases hc : (d.cols.take m)[i]? with
  | none => rw [hc] at h; cases h
  | some c =>
    rw [hc] at h
    have hk : idx x (b x f + c) g [[61]] = k := by simpa using h
    obtain ⟨hi, hci⟩ := List.getElem?_eq_some_iff.1 hc
    have h0 := hm c (by rw [← hci]; exact List.getElem_mem hi)
    have hcd : d.cols.getD i 0 = c := by
      rw [List.getElem_take] at hci
      have hl : i < d.cols.length := by have := hi; rw [List.length_take] at this; omega
      rw [List.getD_eq_getElem?_getD, List.getElem?_eq_getElem hl, hci]
      rfl
    rw [hcd, ← hk]
    exact ⟨h0, idx_ok h0⟩
theorem bound_ok {x : PX} {f : Nat} {d : Df} {next : Nat} {ops : List (List UInt8)} : bound x f d next ops < 0 ∨ 0 ≤ bound x f d next ops ∧ bound x f d next ops < (x.wh.length : Int) ∧ next < d.cols.length ∧ agst x (x.wh.getD (bound x f d next ops).toNat Nd.nil) (b x f + d.cols.getD next 0) 0 ops = true := by
  unfold bound
  by_cases hn : next < d.cols.length
  · rw [if_pos hn]
    by_cases h0 : idx x (b x f + d.cols.getD next 0) 0 ops < 0
    · exact .inl h0
    · exact .inr ⟨by omega, (idx_ok (by omega)).1, hn, (idx_ok (by omega)).2⟩
  · rw [if_neg hn]
    exact .inl (by omega)
theorem defAt_of {x : PX} {p : Pl} {i : Nat} {d : Df} (hp : p.ix = (i : Int)) (h : x.defs[i]? = some d) : defAt x p = d := by
  unfold defAt
  rw [hp, Int.toNat_natCast, List.getD_eq_getElem?_getD, h]
  rfl
theorem uses_range {x : PX} {f i : Nat} {n : Int} {d : Df} (h : x.defs[i]? = some d) (hf : IsFit x f d) : UsesOk x (mkRange x f n i d) 0 := by
  have hd : defAt x (mkRange x f n i d) = d := defAt_of rfl h
  have hi := (List.getElem?_eq_some_iff.1 h).1
  refine ⟨Int.natCast_nonneg f, by show (f : Int) < _; have := hf.1; omega, Int.natCast_nonneg i, by show (i : Int) < _; omega, ?_, ?_, ?_, ?_, ?_, ?_⟩
  · rw [hd]; exact hf.2
  · rw [hd]; exact eqN_len _ _ _ _
  · intro h4; exact absurd (show (2 : Int) = 4 from h4) (by decide)
  · rw [hd]; intro i k hk; exact eqN_ok hk
  · rw [hd]; exact bound_ok
  · rw [hd]; exact bound_ok
theorem uses_lookup {x : PX} {j f i : Nat} {n : Int} {d : Df} {l : Pl} (h : x.defs[i]? = some d) (hf : IsFit x f d) (he : (eqN x f d j).isEmpty = false) : UsesOk x (mkLookup x j f i d l n) j := by
  have hd : defAt x (mkLookup x j f i d l n) = d := defAt_of rfl h
  have hi := (List.getElem?_eq_some_iff.1 h).1
  refine ⟨Int.natCast_nonneg f, by show (f : Int) < _; have := hf.1; omega, Int.natCast_nonneg i, by show (i : Int) < _; omega, ?_, ?_, ?_, ?_, ?_, ?_⟩
  · rw [hd]; exact hf.2
  · rw [hd]; exact eqN_len _ _ _ _
  · intro _
    refine ⟨?_, by show (-1 : Int) < 0; decide, by show (-1 : Int) < 0; decide⟩
    show eqN x f d j ≠ []
    intro e
    rw [e] at he
    cases he
  · rw [hd]; intro i k hk; exact eqN_ok hk
  · exact .inl (by show (-1 : Int) < 0; decide)
  · exact .inl (by show (-1 : Int) < 0; decide)

/-! ### groups -/
theorem J_split : ∀ n < 5, 1 ≤ n → ∀ s < 2 ^ n, 1 ≤ s → ((J n s).all fun j => decide (j.1 ||| j.2 = s) && decide (j.1 &&& j.2 = 0)) = true := by decide +kernel
theorem one_pow {s f : Nat} (h : one s = some f) : 2 ^ f = s := by
  unfold one at h
  split at h
  · next e => cases h; exact e.symm
  · split at h
    · next e => cases h; exact e.symm
    · split at h
      · next e => cases h; exact e.symm
      · split at h
        · next e => cases h; exact e.symm
        · cases h
theorem bit_free : ∀ a < 16, ∀ f < 4, a &&& 2 ^ f = 0 → a.testBit f = false := by decide
/-- A group's plans are right. -/
def GB (x : PX) (s : Nat) (g : Bo) : Prop := (∀ p, g.best = some p → Good x s p s) ∧ ∀ p, g.ord = some p → Good x (s + 1) p s ∧ gives x p = true
theorem lessO_ind {P : Pl → Prop} {o : Option Pl} {q : Pl} (h : ∀ p, o = some p → P p) (hq : P q) : P (lessO o q) := by
  cases o with
  | none => exact hq
  | some a =>
    show P (lessP a q)
    unfold lessP
    split
    · exact hq
    · exact h a rfl
theorem some_ind {P : Pl → Prop} {p : Pl} (h : P p) : ∀ q, some p = some q → P q := fun q e => by cases e; exact h
theorem access_good {x : PX} {f : Nat} {n : Int} (hf : f < x.T.length) {p : Pl} (h : p ∈ access x f n) (d : Nat) : Good x (d + 1) p (2 ^ f) := by
  rcases mem_acc1 _ _ _ rfl h with h | ⟨k, e, h1, h2, rfl⟩
  · rw [List.mem_singleton.1 h]
    exact Good.seq (x := x) (d := d) (p := mkSeq x f n) rfl rfl (Int.natCast_nonneg f) (by show (f : Int) < _; omega)
  · exact Good.range (x := x) (d := d) (p := mkRange x f n k e) rfl rfl (uses_range h1 h2)
theorem joinF_ind {x : PX} {j : Nat × Nat} {l : Pl} {n : Int} {P : Pl → Prop} (hP : ∀ i d f, x.defs[i]? = some d → one j.2 = some f → IsFit x f d → (eqN x f d j.1).isEmpty = false → P (mkLookup x j.1 f i d l n)) : ∀ (L : List Df) (i : Nat) (out : Pl), L = x.defs.drop i → P out → P (joinF x j l n i L out)
  | [], _, _, _, h => h
  | d :: L, i, out, hL, h => by
    obtain ⟨h1, h2⟩ := drop_cons hL
    show P (joinF x j l n (i + 1) L (jStep x j l n i d out))
    refine joinF_ind hP L (i + 1) _ h2 ?_
    unfold jStep
    split
    · next f hf =>
      split
      · next hc =>
        rw [fits_at h1] at hc
        simp only [Bool.and_eq_true, decide_eq_true_eq, Bool.not_eq_true'] at hc
        exact lessO_ind (o := some out) (some_ind h) (hP i d f h1 hf hc.1 hc.2)
      · exact h
    · exact h
theorem join_good {x : PX} {j : Nat × Nat} {s : Nat} {l r : Pl} {n : Int} {dl d : Nat} (hT : x.T.length ≤ 4) (hs : j.1 ||| j.2 = s) (ha : j.1 &&& j.2 = 0) (hl : Good x dl l j.1) (hld : dl ≤ d) (hr : Good x j.2 r j.2) (hrd : j.2 ≤ d) :
    Good x (d + 1) (join x j l r n) s ∧ gives x (join x j l r n) = gives x l := by
  refine joinF_ind (P := fun p => Good x (d + 1) p s ∧ gives x p = gives x l) ?_ x.defs 0 (mkLoop x j l r n) rfl ?_
  · intro i e f h1 h2 h3 h4
    have hp := one_pow h2
    refine ⟨?_, gives_kid (p := mkLookup x j.1 f i e l n) (k := l) (l := []) (.inr rfl) rfl⟩
    have hg := Good.lookup (x := x) (d := d) (p := mkLookup x j.1 f i e l n) (l := l) (ml := j.1) rfl rfl (hl.mono hld) (by
      show j.1.testBit ((f : Int)).toNat = false
      rw [Int.toNat_natCast]
      exact bit_free _ (hl.lt hT) _ (by have := h3.1; omega) (by rw [hp]; exact ha)) (uses_lookup h1 h3 h4)
    have e2 : j.1 ||| 2 ^ (mkLookup x j.1 f i e l n).fr.toNat = s := by
      show j.1 ||| 2 ^ ((f : Int)).toNat = s
      rw [Int.toNat_natCast, hp, hs]
    rw [e2] at hg
    exact hg
  · refine ⟨?_, gives_kid (p := mkLoop x j l r n) (k := l) (l := [r]) (.inl rfl) rfl⟩
    have hg := Good.loop (x := x) (d := d) (p := mkLoop x j l r n) (l := l) (r := r) (ml := j.1) (mr := j.2) rfl rfl (hl.mono hld) (hr.mono hrd) ha
    rw [hs] at hg
    exact hg
theorem opt_good {x : PX} (h1 : 1 ≤ x.T.length) (h4 : x.T.length < 5) {M : Nat → Bo} (hM : ∀ k, GB x k (M k)) {s : Nat} (k1 : 1 ≤ s) (k2 : s < 2 ^ x.T.length) (hb : ∀ i, 1 ≤ i → i < s → (M i).best.isSome = true) : GB x s (opt x (J x.T.length) M s) := by
  have hA : GB x s (optA x s (M s)) := by
    unfold optA
    split
    · next f hf =>
      have hp := one_pow hf
      have hfT := J_one _ h4 h1 _ k2 k1 f hf
      have hd : ∃ d, s = d + 1 := ⟨s - 1, by omega⟩
      obtain ⟨d, hd⟩ := hd
      have : ∀ (L : List Pl), (∀ p ∈ L, ∀ d, Good x (d + 1) p s) → ∀ g : Bo, GB x s g → GB x s (L.foldl (accStep x s (sorts x).1 (sorts x).2) g) := by
        intro L
        induction L with
        | nil => exact fun _ g h => h
        | cons p L ih =>
          intro hL g h
          have hp0 := hL p (List.mem_cons_self ..)
          refine ih (fun q hq => hL q (List.mem_cons_of_mem _ hq)) _ ⟨some_ind (lessO_ind h.1 ?_), fun q hq => ?_⟩
          · have := hp0 d; rw [← hd] at this; exact this
          unfold accStep at hq
          dsimp only at hq
          split at hq
          · next hc => exact some_ind (P := fun p => Good x (s + 1) p s ∧ gives x p = true) (lessO_ind h.2 ⟨hp0 s, hc.2.2⟩) q hq
          · exact h.2 q hq
      refine this _ (fun p hp' d => ?_) _ (hM s)
      have := access_good hfT hp' d
      rw [hp] at this
      exact this
    · exact hM s
  have hJ : ∀ (L : List (Nat × Nat)), (∀ j ∈ L, j ∈ J x.T.length s) → ∀ (g : Bo), GB x s g → GB x s (L.foldl (joinStep x M (size x s)) g) := by
    intro L
    induction L with
    | nil => exact fun _ g h => h
    | cons j L ih =>
      intro hL g h
      have hj := hL j (List.mem_cons_self ..)
      obtain ⟨a1, a2, a3, a4⟩ := J_parts h4 h1 k2 k1 j hj
      have hsp := List.all_eq_true.1 (J_split _ h4 h1 _ k2 k1) j hj
      simp only [Bool.and_eq_true, decide_eq_true_eq] at hsp
      obtain ⟨l, hl⟩ := Option.isSome_iff_exists.1 (hb _ a1 a3)
      obtain ⟨r, hr⟩ := Option.isSome_iff_exists.1 (hb _ a2 a4)
      have gl := (hM j.1).1 l hl
      have gr := (hM j.2).1 r hr
      have hd : ∃ d, s = d + 1 := ⟨s - 1, by omega⟩
      obtain ⟨d, hd⟩ := hd
      refine ih (fun q hq => hL q (List.mem_cons_of_mem _ hq)) _ ⟨some_ind (lessO_ind h.1 ?_), fun q hq => ?_⟩
      · have := (join_good (n := size x s) (by omega) hsp.1 hsp.2 gl (d := d) (by omega) gr (by omega)).1
        rw [← hd] at this
        rw [hl, hr]
        exact this
      · unfold joinStep at hq
        dsimp only at hq
        split at hq
        · next lo hlo =>
          have go := (hM j.1).2 lo hlo
          have hg := join_good (n := size x s) (by omega) hsp.1 hsp.2 go.1 (d := s) (by omega) gr (by omega)
          rw [hr] at hq
          exact some_ind (P := fun p => Good x (s + 1) p s ∧ gives x p = true) (lessO_ind h.2 ⟨hg.1, by rw [hg.2]; exact go.2⟩) q hq
        · exact h.2 q hq
  have hF := hJ (J x.T.length s) (fun j h => h) _ hA
  have hsm := opt_some x (J x.T.length) M s (ways h1 h4 k1 k2)
  unfold opt at hsm ⊢
  rw [optS_best] at hsm
  obtain ⟨p, hp⟩ := Option.isSome_iff_exists.1 hsm
  unfold optS
  split
  · refine ⟨hF.1, some_ind (P := fun p => Good x (s + 1) p s ∧ gives x p = true) (lessO_ind hF.2 ⟨?_, gives_sort rfl⟩)⟩
    rw [hp]
    exact Good.sort (x := x) (d := s) (p := mkSort p (size x s)) (k := p) rfl rfl (hF.1 p hp)
  · exact hF
theorem optAll_good {x : PX} (h1 : 1 ≤ x.T.length) (h4 : x.T.length < 5) : ∀ (k s : Nat) (M : Nat → Bo), 1 ≤ s → s + k ≤ 2 ^ x.T.length → (∀ i, GB x i (M i)) → (∀ i, 1 ≤ i → i < s → (M i).best.isSome = true) → ∀ i, GB x i (optAll x (J x.T.length) s k M i)
  | 0, _, _, _, _, h, _ => h
  | k + 1, s, M, k1, k2, h, hb => by
    refine optAll_good h1 h4 k (s + 1) _ (by omega) (by omega) (fun i => ?_) (set_some hb (opt_some _ _ _ _ (ways h1 h4 k1 (by omega : s < 2 ^ x.T.length))))
    unfold setM
    split
    · next e => rw [e]; exact opt_good h1 h4 h k1 (by omega) hb
    · exact h i
/-- The plan that is chosen is right, and gives the order. -/
theorem choose_good {x : PX} (h1 : 1 ≤ x.T.length) (h4 : x.T.length < 5) (hB : x.B.length = x.T.length) : Good x 24 (choose x) (2 ^ x.T.length - 1) ∧ ((sorts x).2 = true → gives x (choose x) = true) := by
  have h2 : 2 ≤ 2 ^ x.T.length := Nat.pow_le_pow_right (by omega : 0 < 2) h1
  have h16 : 2 ^ x.T.length ≤ 16 := Nat.pow_le_pow_right (by omega : 0 < 2) (show x.T.length ≤ 4 by omega)
  have hg := optAll_good (x := x) h1 h4 (2 ^ x.T.length - 1) 1 (fun _ => ⟨none, none⟩) (Nat.le_refl _) (by omega) (fun _ => ⟨(by intro p e; cases e), (by intro p e; cases e)⟩) (fun i a b => by omega) (2 ^ x.T.length - 1)
  have hb := optAll_some (x := x) h1 h4 (2 ^ x.T.length - 1) 1 (fun _ => ⟨none, none⟩) (Nat.le_refl _) (by omega) (fun i a b => by omega) (2 ^ x.T.length - 1) (by omega) (by omega)
  obtain ⟨M, e⟩ := choose_eq (x := x) h1
  have ho : (sorts x).2 = true → (optAll x (J x.T.length) 1 (2 ^ x.T.length - 1) (fun _ => ⟨none, none⟩) (2 ^ x.T.length - 1)).ord.isSome = true := fun hm => by
    rw [e]
    exact opt_must hm (sorts_all hB)
  unfold choose
  dsimp only
  cases hq : (optAll x (J x.T.length) 1 (2 ^ x.T.length - 1) (fun _ => ⟨none, none⟩) (2 ^ x.T.length - 1)).ord with
  | some q => exact ⟨(hg.2 q hq).1.mono (by omega), fun _ => (hg.2 q hq).2⟩
  | none =>
    obtain ⟨p, hp⟩ := Option.isSome_iff_exists.1 hb
    rw [hp]
    refine ⟨(hg.1 p hp).mono (by omega), fun hm => ?_⟩
    have := ho hm
    rw [hq] at this
    cases this
end Pn
end Go.Proofs.YtjdffhonljhpcaaGreat
end

section
/-
  The contract of plan's gives, at a plan that can be read (as PlGives).
-/
namespace Go.Proofs.YtjdffhonljhpcaaGreat
set_option linter.unusedSimpArgs false
set_option linter.unusedVariables false
open Go.RowKit

set_option maxRecDepth 20000 in
set_option maxHeartbeats 8000000 in
theorem plgivesr_any (w : World) (p : Qp) (hp : QpIn w p) (hs : Pn.Sh p.x) (da : Option Addr) (dc : Nat) (hd : DfsIn w da p.x.defs) (l : Pm) (hl : PmRd w l) (hok : GvOk p.x l) :
    ∀ W, Below w.heap.size w W → Calls Tryz.prog 24 #[p.v, .slice da p.x.defs.length dc, l.v] W (RetBo W (Pn.gives p.x l.e)) := by
  have HP := Lib.hid hp
  have HS := Lib.hid hs
  have HDF := Lib.hid hd
  have hol := hp.ol
  clear hp hs hd
  induction hok with
  | @sort l h5 =>
    intro W hB
    have HBO := Lib.hid hB
    have HF : Hid (Pn.gives p.x l.e = true) := Pn.gives_sort (by rw [l.e_op]; exact h5)
    obtain ⟨D, hD⟩ : ∃ D, Pn.gives p.x l.e = D := ⟨_, rfl⟩
    rw [hD] at HF ⊢
    have h5b : (l.op == 5) = true := by simp [h5]
    clear hB hD h5
    go_enter Tryz.func24, Tryz.ntmps24
    go_upto_region 1 with (first | (refine wpList_box_qp rfl (.tmp 0) rfl p rfl ?_; intro W1 hb1 hz1 hB1) | (refine wpList_box_pm rfl (.tmp 2) rfl l rfl ?_; intro W2 hb2 hz2 hB2))
    have HB2 := Lib.hid (hB1.then hB2)
    obtain ⟨c0, -⟩ := Blk.pm hb2
    clear hb1 hB1 hB2 hz1 hz2 hb2
    go_wp2_with fail
    go_ret
    exact ⟨by rw [HF.out]; rfl, HB2.out⟩
  | @seq l h1 =>
    intro W hB
    have HBO := Lib.hid hB
    have HF : Hid (Pn.gives p.x l.e = p.x.ord.isEmpty) := Pn.gives_seq (by rw [l.e_op]; exact h1)
    obtain ⟨D, hD⟩ : ∃ D, Pn.gives p.x l.e = D := ⟨_, rfl⟩
    rw [hD] at HF ⊢
    have k1 : (l.op == 1) = true := by simp [h1]
    have k5 : (l.op == 5) = false := by simp [h1]
    have k3 : (l.op == 3) = false := by simp [h1]
    have k4 : (l.op == 4) = false := by simp [h1]
    have HFE : Hid (D = ((p.x.ord.length : Int) == 0)) := by
      show _ = _
      rw [HF.out]
      cases p.x.ord with
      | nil => rfl
      | cons s l => exact (beq_eq_false_iff_ne.2 (by rw [List.length_cons]; omega)).symm
    clear hB hD h1 HF
    go_enter Tryz.func24, Tryz.ntmps24
    go_upto_region 1 with (first | (refine wpList_box_qp rfl (.tmp 0) rfl p rfl ?_; intro W1 hb1 hz1 hB1) | (refine wpList_box_pm rfl (.tmp 2) rfl l rfl ?_; intro W2 hb2 hz2 hB2))
    have HB2 := Lib.hid (hB1.then hB2)
    obtain ⟨c0, -⟩ := Blk.pm hb2
    obtain ⟨-, -, -, -, -, c7⟩ := Blk.qp (hb1.below hB2)
    clear hb1 hB1 hB2 hz1 hz2 hb2
    obtain ⟨z, hz⟩ : ∃ z, ((p.x.ord.length : Int) == 0) = z := ⟨_, rfl⟩
    rw [hz] at HFE
    go_wp2_with fail
    go_ret
    exact ⟨by rw [HFE.out]; rfl, HB2.out⟩
  | @kid l k r h34 hk hok ih =>
    intro W hB
    have HBO := Lib.hid hB
    have HF : Hid (Pn.gives p.x l.e = Pn.gives p.x k.e) := Pn.gives_kid (by rw [l.e_op]; exact h34) (by rw [l.e_eq]; show l.kids.map Pm.e = _; rw [hk]; rfl)
    obtain ⟨D, hD⟩ : ∃ D, Pn.gives p.x l.e = D := ⟨_, rfl⟩
    rw [hD] at HF ⊢
    have HIK := Lib.hid (ih (hl.kid k (by rw [hk]; exact List.mem_cons_self)))
    have hl0 : 0 < l.kids.length := by rw [hk]; simp
    have hkl := hl.kidl
    have hget : l.kids[0] = k := by simp [hk]
    have HGET := Lib.hid hget
    have HKR := Lib.hid hl.kidr
    obtain ⟨bk, ok, hka, -, -⟩ := HKR.out.at_ hl0
    have hli : (0 : Int) < (l.kids.length : Int) := by omega
    have k5 : (l.op == 5) = false := by rcases h34 with h | h <;> rw [h] <;> rfl
    clear hD ih hl hk hok hB hget
    go_enter Tryz.func24, Tryz.ntmps24
    go_upto_region 1 with (first | (refine wpList_box_qp rfl (.tmp 0) rfl p rfl ?_; intro W1 hb1 hz1 hB1) | (refine wpList_box_pm rfl (.tmp 2) rfl l rfl ?_; intro W2 hb2 hz2 hB2))
    have HB2 := Lib.hid (hB1.then hB2)
    have HQ := Lib.hid (hb1.below hB2)
    have HL := Lib.hid hb2
    obtain ⟨c0, -, -, -, -, -, -, -, c8⟩ := Blk.pm hb2
    rw [hka] at c8
    have HK2 : Hid (ERow ePm W2.drew (some ⟨bk, ok, none⟩) l.kids) := by show ERow _ _ _ _; rw [← hka]; exact HKR.out.below (HBO.out.then HB2.out.drewR)
    obtain ⟨g3, hg3⟩ : ∃ g, W.heap.size = g := ⟨_, rfl⟩
    rw [hg3] at HQ ⊢
    generalize W1.heap.size = g5 at HL c0 c8 ⊢
    have HBD : Hid (Below W.heap.size W W2.drew) := HB2.out.drewR
    have c8d : W2.drew.cell? _ = _ := c8
    clear hb1 hB1 hB2 hz1 hz2 hb2 hg3 hka
    rcases h34 with h | h
    · have k3 : (l.op == 3) = true := by simp [h]
      clear h
      go_upto_region 6 with fail
      have hqd := HQ.out.drew
      refine wp_region_plan (.take 0 (.take 1 (.take 2 (.take 3 (.take 4 (.take 5 (.run 6 [] (.take 7 .fin)))))))) (by kernel_rfl) (by kernel_rfl) (by kernel_rfl) (by kernel_rfl) ?_
      repeat' (first | (refine hZ _ _ ?_; clear hZ) | (refine hZ _ ?_; clear hZ) | (refine hZ ?_; clear hZ) | rw [again_nil] | rw [walk_fin] | ((first | rw [walk_take] | rw [walk_run] | rw [again_cons]); intro Z hZ; simp only [sel, List.getElem?_toArray, List.getElem?_cons_zero, List.getElem?_cons_succ]; go_wp2_with (first | (refine wpList_load_qp0 rfl (.tmp 3) rfl g3 rfl hqd ?_) | (refine wpList_load_pm_at rfl (.tmp 23) rfl HK2.out hl0 k HGET.out rfl ?_))))
      refine (HIK.out W2.drew (HBO.out.then HBD.out)).mono ?_
      rintro e W4 ⟨rfl, hB4⟩
      have HB4 := Lib.hid (HBD.out.then hB4)
      clear hB4
      go_wp2_with fail
      repeat' (first | (refine hZ _ _ ?_; clear hZ) | (refine hZ _ ?_; clear hZ) | (refine hZ ?_; clear hZ) | rw [again_nil] | rw [walk_fin] | ((first | rw [walk_take] | rw [walk_run] | rw [again_cons]); intro Z hZ; simp only [sel, List.getElem?_toArray, List.getElem?_cons_zero, List.getElem?_cons_succ]; go_wp2_with (fail)))
      go_wp2_with fail
      go_ret
      exact ⟨by rw [HF.out]; rfl, HB4.out⟩
    · have k3 : (l.op == 3) = false := by simp [h]
      have k4 : (l.op == 4) = true := by simp [h]
      clear h
      go_upto_region 6 with fail
      have hqd := HQ.out.drew
      refine wp_region_plan (.take 0 (.take 1 (.take 2 (.take 3 (.take 4 (.take 5 (.run 6 [] (.take 7 .fin)))))))) (by kernel_rfl) (by kernel_rfl) (by kernel_rfl) (by kernel_rfl) ?_
      repeat' (first | (refine hZ _ _ ?_; clear hZ) | (refine hZ _ ?_; clear hZ) | (refine hZ ?_; clear hZ) | rw [again_nil] | rw [walk_fin] | ((first | rw [walk_take] | rw [walk_run] | rw [again_cons]); intro Z hZ; simp only [sel, List.getElem?_toArray, List.getElem?_cons_zero, List.getElem?_cons_succ]; go_wp2_with (first | (refine wpList_load_qp0 rfl (.tmp 3) rfl g3 rfl hqd ?_) | (refine wpList_load_pm_at rfl (.tmp 23) rfl HK2.out hl0 k HGET.out rfl ?_))))
      refine (HIK.out W2.drew (HBO.out.then HBD.out)).mono ?_
      rintro e W4 ⟨rfl, hB4⟩
      have HB4 := Lib.hid (HBD.out.then hB4)
      clear hB4
      go_wp2_with fail
      repeat' (first | (refine hZ _ _ ?_; clear hZ) | (refine hZ _ ?_; clear hZ) | (refine hZ ?_; clear hZ) | rw [again_nil] | rw [walk_fin] | ((first | rw [walk_take] | rw [walk_run] | rw [again_cons]); intro Z hZ; simp only [sel, List.getElem?_toArray, List.getElem?_cons_zero, List.getElem?_cons_succ]; go_wp2_with (fail)))
      go_wp2_with fail
      go_ret
      exact ⟨by rw [HF.out]; rfl, HB4.out⟩
  | @range l h5 h3 h4 h1 hx0 hx1 hf0 hf1 hel =>
    intro W hB
    have HBO := Lib.hid hB
    obtain ⟨i, hi⟩ : ∃ i : Nat, l.ix = (i : Int) := ⟨l.ix.toNat, by omega⟩
    obtain ⟨f, hf⟩ : ∃ f : Nat, l.fr = (f : Int) := ⟨l.fr.toNat, by omega⟩
    have hil : i < p.x.defs.length := by omega
    have hfl : f < p.x.T.length := by omega
    obtain ⟨d, hd0⟩ : ∃ d, p.x.defs[i] = d := ⟨_, rfl⟩
    have hgd : p.x.defs.getD l.ix.toNat ⟨0, none, [], 0, false⟩ = d := by rw [hi, Int.toNat_natCast, ← hd0]; simp [List.getD, hil]
    have HF : Hid (Pn.gives p.x l.e = Pn.givF p.x f d.cols l.eq.length (p.x.ord.drop 0) l.eq.length) := by
      show _ = _
      rw [Pn.gives_range (by rw [l.e_op]; exact h5) (by rw [l.e_op]; exact h3) (by rw [l.e_op]; exact h4) (by rw [l.e_op]; exact h1), l.e_eq]
      show Pn.givF p.x l.fr (p.x.defs.getD l.ix.toNat _).cols l.eq.length p.x.ord l.eq.length = _
      rw [hgd, hf]
      rfl
    obtain ⟨D, hD⟩ : ∃ D, Pn.gives p.x l.e = D := ⟨_, rfl⟩
    rw [hD] at HF ⊢
    rw [hgd] at hel
    have k5 : (l.op == 5) = false := by simp [h5]
    have k3 : (l.op == 3) = false := by simp [h3]
    have k4 : (l.op == 4) = false := by simp [h4]
    have k1 : (l.op == 1) = false := by simp [h1]
    have hdm : d ∈ p.x.defs := by rw [← hd0]; exact List.getElem_mem hil
    have hcp := HDF.out.cp d hdm
    have hcl := HDF.out.cl d hdm
    have hcp1 := hcp.1
    have hcp2 := hcp.2
    have HCR := Lib.hid (HDF.out.cr d hdm)
    have hii : (i : Int) < (p.x.defs.length : Int) := by omega
    have hdl := HDF.out.len
    have hel2 := hl.eql
    have HFL := Lib.hid (HS.out.lt f hfl)
    have hfB : f < p.x.B.length := by rw [HS.out.bl]; exact hfl
    have hfi : (f : Int) < (p.x.B.length : Int) := by omega
    have hf4 : f < 4 := by have := HS.out.t4; omega
    obtain ⟨bd, od, had, -, -, -⟩ := df_at HDF.out.r hil
    have HQ9 : Hid (∀ V, Below w.heap.size w V → V.cell? ⟨bd, od + i * 3 + 1, none⟩ = some (.slice d.a d.cols.length d.c)) := fun V hV => by
      obtain ⟨b', o', e', -, -, q1⟩ := df_at (HDF.out.r.below hV) hil
      rw [had] at e'
      cases e'
      rw [hd0] at q1
      exact q1
    rw [had]
    clear hD h5 h3 h4 h1 hx0 hx1 hf0 hf1 hB hgd hdm hcp had hd0 hl
    go_enter Tryz.func24, Tryz.ntmps24
    go_upto_region 1 with (first | (refine wpList_box_qp rfl (.tmp 0) rfl p rfl ?_; intro W1 hb1 hz1 hB1) | (refine wpList_box_pm rfl (.tmp 2) rfl l rfl ?_; intro W2 hb2 hz2 hB2))
    have HB2 := Lib.hid (hB1.then hB2)
    have HQ := Lib.hid (hb1.below hB2)
    have HL := Lib.hid hb2
    obtain ⟨g3, hg3⟩ : ∃ g, W.heap.size = g := ⟨_, rfl⟩
    rw [hg3] at HQ ⊢
    generalize W1.heap.size = g5 at HL ⊢
    obtain ⟨c0, c1, c2, c3, -⟩ := Blk.pm HL.out
    rw [hi] at c2
    have HFR := Lib.hid hf
    obtain ⟨-, -, -, -, -, c7⟩ := Blk.qp HQ.out
    have qd := HQ9.out W2 (HBO.out.then HB2.out)
    clear hb1 hB1 hB2 hz1 hz2 hb2 hg3 hi hf
    go_upto_region 12 with fail
    clear c0 c1 c2 c3 c7 qd
    go_loopw [8, 44] (fun nv iv wr => ∃ (j next : Nat), j ≤ p.x.ord.length ∧ iv = .int .i64 (j : Int) ∧ nv = .int .i64 (next : Int) ∧ next ≤ 1000 ∧ Hid (Pn.givF p.x f d.cols l.eq.length (p.x.ord.drop j) next = D ∧ Below W2.heap.size W2 wr)) (fun _ iv _ => p.x.ord.length - (intOf iv).toNat)
    case atStart => exact ⟨0, l.eq.length, Nat.zero_le _, by go_num, rfl, hel2, HF.out.symm, Below.refl _ _⟩
    case round =>
      obtain ⟨j, next, hj, rfl, rfl, hnx, HJ⟩ := hrel
      have HE := Lib.hid HJ.out.1
      have HBW := Lib.hid HJ.out.2
      clear HJ
      by_cases hlt : j < p.x.ord.length
      · have hjj : (j : Int) < (p.x.ord.length : Int) := by omega
        obtain ⟨s, hs⟩ : ∃ s, p.x.ord[j] = s := ⟨_, rfl⟩
        have HSE := Lib.hid hs
        obtain ⟨bo, oo, hao, -, -⟩ := HP.out.o.at_ hlt
        have HIW : Hid (ERow eSo wr (some ⟨bo, oo, none⟩) p.x.ord) := by show ERow _ _ _ _; rw [← hao]; exact HP.out.o.below (HBO.out.then (HB2.out.then HBW.out))
        have HX := Lib.hid HE.out
        have HX : Hid ((if s.desc = true ∨ Pn.ofT p.x s.at_ ≠ (f : Int) then false else if (d.cols.take l.eq.length).contains (s.at_ - Pn.b p.x f) then Pn.givF p.x f d.cols l.eq.length (p.x.ord.drop (j + 1)) next else if next < d.cols.length ∧ d.cols.getD next 0 = s.at_ - Pn.b p.x f then Pn.givF p.x f d.cols l.eq.length (p.x.ord.drop (j + 1)) (next + 1) else false) = D) := by
          show _ = _
          rw [← HE.out, Pn.givF_drop _ _ _ _ _ _ hlt, hs, Int.toNat_natCast]
        rw [hao]
        clear hao hs
        go_upto_region 14 with (first | (refine wpList_load_so_at rfl (.tmp 46) rfl HIW.out hlt s HSE.out rfl ?_) | (refine wpList_alloc_so rfl rfl ?_; intro W6 hb6 hz6 hB6) | (refine wpList_store_so rfl rfl (.tmp 10) (.tmp 47) rfl wr.heap.size rfl s rfl hb6 ?_; intro W7 hb7 hg7))
        have HB7 := Lib.hid (below_of_grown (HBW.out.then hB6) hg7 HBW.out.size (Nat.le_trans HBW.out.size hB6.size))
        clear hb6 hz6 hB6 hg7 HIW HSE
        generalize wr.heap.size = g10 at hb7 ⊢
        have HS7 := Lib.hid hb7
        have HBD : Hid (Below W2.heap.size W2 W7.drew) := HB7.out.drewR
        obtain ⟨e0, -⟩ := Blk.c2 hb7.drew
        obtain ⟨-, q1, -⟩ := Blk.qp (HQ.out.below HBD.out)
        obtain ⟨-, c1, -⟩ := Blk.pm (HL.out.below HBD.out)
        rw [HFR.out] at c1
        obtain ⟨bb, ob, hab, -, hc0⟩ := int_at (HP.out.b.below (HBO.out.then (HB2.out.then HBD.out))) hfB
        have hcb : W7.drew.cell? ⟨bb, ob + f, none⟩ = some (.int .i64 (Pn.b p.x f)) := by rw [← Pn.b_get hfB]; exact hc0
        rw [hab] at q1
        clear hc0 hab hb7
        refine wp_region_plan (.take 0 (.take 1 (.take 2 (.take 3 (.take 4 (.take 5 (.take 6 (.take 7 (.take 8 (.take 9 .fin)))))))))) (by kernel_rfl) (by kernel_rfl) (by kernel_rfl) (by kernel_rfl) ?_
        repeat' (first | (refine hZ _ _ ?_; clear hZ) | (refine hZ _ ?_; clear hZ) | (refine hZ ?_; clear hZ) | rw [again_nil] | rw [walk_fin] | ((first | rw [walk_take] | rw [walk_run] | rw [again_cons]); intro Z hZ; simp only [sel, List.getElem?_toArray, List.getElem?_cons_zero, List.getElem?_cons_succ]; go_wp2_with (fail)))
        go_upto_region 16 with fail
        clear e0 q1 c1 hcb
        have HBE : Hid (Below W2.heap.size W2 W7.drew.drew) := HBD.out.drewR
        obtain ⟨e0, e1, -⟩ := Blk.c2 HS7.out.drew.drew
        cases hdesc : s.desc with
        | true =>
          have HF2 : Hid (D = false) := by show _ = _; rw [← HX.out, if_pos (.inl hdesc)]
          rw [hdesc] at e1
          clear hdesc
          refine wp_region_plan (.take 0 (.take 1 (.take 2 (.take 3 (.take 4 (.take 5 (.take 7 (.take 8 (.run 6 [7, 8] (.take 9 (.take 10 (.take 11 .fin)))))))))))) (by kernel_rfl) (by kernel_rfl) (by kernel_rfl) (by kernel_rfl) ?_
          repeat' (first | (refine hZ _ _ ?_; clear hZ) | (refine hZ _ ?_; clear hZ) | (refine hZ ?_; clear hZ) | rw [again_nil] | rw [walk_fin] | ((first | rw [walk_take] | rw [walk_run] | rw [again_cons]); intro Z hZ; simp only [sel, List.getElem?_toArray, List.getElem?_cons_zero, List.getElem?_cons_succ]; go_wp2_with (fail)))
          go_wp2_with fail
          go_ret
          exact ⟨by rw [HF2.out]; rfl, HB2.out.then HBE.out⟩
        | false =>
          have HX2 : Hid ((if Pn.ofT p.x s.at_ ≠ (f : Int) then false else if (d.cols.take l.eq.length).contains (s.at_ - Pn.b p.x f) then Pn.givF p.x f d.cols l.eq.length (p.x.ord.drop (j + 1)) next else if next < d.cols.length ∧ d.cols.getD next 0 = s.at_ - Pn.b p.x f then Pn.givF p.x f d.cols l.eq.length (p.x.ord.drop (j + 1)) (next + 1) else false) = D) := by
            show _ = _
            rw [← HX.out]
            by_cases hq : Pn.ofT p.x s.at_ ≠ (f : Int)
            · rw [if_pos hq, if_pos (.inr hq)]
            · have hn : ¬ (s.desc = true ∨ Pn.ofT p.x s.at_ ≠ (f : Int)) := by
                rintro (h | h)
                · rw [hdesc] at h; cases h
                · exact hq h
              rw [if_neg hq, if_neg hn]
          rw [hdesc] at e1
          have HOF := Lib.hid (plof_any W7.drew.drew p (HP.out.below (HBO.out.then (HB2.out.then HBE.out))) s.at_)
          obtain ⟨u0, u1, u2, u3, u4, u5, u6, u7, u8⟩ := Blk.qp9 (Blk.qp90 (HQ.out.below HBE.out))
          obtain ⟨-, c1, -⟩ := Blk.pm (HL.out.below HBE.out)
          rw [HFR.out] at c1
          clear hdesc
          refine wp_region_plan (.take 0 (.take 1 (.take 2 (.take 3 (.take 4 (.take 5 (.take 7 (.take 8 (.run 6 [7, 8] (.take 9 (.take 10 (.take 11 .fin)))))))))))) (by kernel_rfl) (by kernel_rfl) (by kernel_rfl) (by kernel_rfl) ?_
          repeat' (first | (refine hZ _ _ ?_; clear hZ) | (refine hZ _ ?_; clear hZ) | (refine hZ ?_; clear hZ) | rw [again_nil] | rw [walk_fin] | ((first | rw [walk_take] | rw [walk_run] | rw [again_cons]); intro Z hZ; simp only [sel, List.getElem?_toArray, List.getElem?_cons_zero, List.getElem?_cons_succ]; go_wp2_with (fail)))
          refine (show Calls _ _ #[p.v, _] _ _ from HOF.out).mono ?_
          rintro e W9 ⟨rfl, hB9⟩
          have HB9 := Lib.hid (HBE.out.then hB9)
          replace c1 := cell_later hB9 c1
          replace e0 := cell_later hB9 e0
          replace e1 := cell_later hB9 e1
          clear hB9 u0 u1 u2 u3 u4 u5 u6 u7 u8 HOF
          by_cases hft : Pn.ofT p.x s.at_ = (f : Int)
          · have hhit := Pn.ofT_hit hft
            have hnn : ¬ (Pn.ofT p.x s.at_ ≠ (f : Int)) := fun h => h hft
            have hfl2 := HFL.out
            have HX3 : Hid ((if (d.cols.take l.eq.length).contains (s.at_ - Pn.b p.x f) then Pn.givF p.x f d.cols l.eq.length (p.x.ord.drop (j + 1)) next else if next < d.cols.length ∧ d.cols.getD next 0 = s.at_ - Pn.b p.x f then Pn.givF p.x f d.cols l.eq.length (p.x.ord.drop (j + 1)) (next + 1) else false) = D) := by show _ = _; rw [← HX2.out, if_neg hnn]
            rw [hft]
            clear hft hnn
            generalize Pn.endN p.x f = ef at hhit hfl2
            have hwr : wrap64 (s.at_ - Pn.b p.x f) = s.at_ - Pn.b p.x f := by unfold wrap64; omega
            rw [hwr]
            generalize s.at_ - Pn.b p.x f = cc at HX3 ⊢
            clear hwr hhit hfl2
            go_wp2_with fail
            repeat' (first | (refine hZ _ _ ?_; clear hZ) | (refine hZ _ ?_; clear hZ) | (refine hZ ?_; clear hZ) | rw [again_nil] | rw [walk_fin] | ((first | rw [walk_take] | rw [walk_run] | rw [again_cons]); intro Z hZ; simp only [sel, List.getElem?_toArray, List.getElem?_cons_zero, List.getElem?_cons_succ]; go_wp2_with (fail)))
            have HB10 : Hid (Below W2.heap.size W2 W9) := HB9.out
            obtain ⟨-, -, -, c3, -⟩ := Blk.pm (HL.out.below HB10.out)
            have heli : (l.eq.length : Int) ≤ (d.c : Int) := by omega
            have htk : (d.cols.take l.eq.length).length = l.eq.length := by rw [List.length_take]; omega
            have HCT := Lib.hid (icontains_any W9 d.a d.c (d.cols.take l.eq.length) (ERow.take (HCR.out.below (HBO.out.then (HB2.out.then HB10.out))) _) (by rw [htk]; omega) cc)
            rw [htk] at HCT
            clear htk
            obtain ⟨C, hC⟩ : ∃ C, (d.cols.take l.eq.length).contains cc = C := ⟨_, rfl⟩
            rw [hC] at HCT HX3
            clear hC c1 e0 e1
            go_wp2_with fail
            refine HCT.out.mono ?_
            rintro e w10 ⟨rfl, rfl⟩
            cases C with
            | true =>
              have HN : Hid (Pn.givF p.x f d.cols l.eq.length (p.x.ord.drop (j + 1)) next = D) := by show _ = _; rw [← HX3.out, if_pos rfl]
              go_wp2_with fail
              go_roundw
              case rel => exact ⟨j + 1, next, by omega, by go_num, rfl, hnx, HN.out, HB10.out⟩
              case measure => simp [intOf]; omega
            | false =>
              have HX4 : Hid ((if next < d.cols.length ∧ d.cols.getD next 0 = cc then Pn.givF p.x f d.cols l.eq.length (p.x.ord.drop (j + 1)) (next + 1) else false) = D) := by show _ = _; rw [← HX3.out]; rfl
              by_cases hn : next < d.cols.length
              · have hni : (next : Int) < (d.cols.length : Int) := by omega
                obtain ⟨bc, oc, hac, -, q2⟩ := int_at (HCR.out.below (HBO.out.then (HB2.out.then HB10.out))) hn
                obtain ⟨v, hv⟩ : ∃ v, d.cols[next] = v := ⟨_, rfl⟩
                have hgv : d.cols.getD next 0 = v := by rw [← hv]; simp [List.getD, hn]
                rw [hv] at q2
                rw [hgv] at HX4
                have hix : (Instr.indexAt 33 (.slice d.a d.cols.length d.c) (.int .i64 (next : Int))).run Tryz.prog W9 = .ok (.pointer (some ⟨bc, oc + next, none⟩)) W9 := by rw [hac]; go_simp
                clear hv hgv hac HCT
                by_cases hvc : v = cc
                · have HN : Hid (Pn.givF p.x f d.cols l.eq.length (p.x.ord.drop (j + 1)) (next + 1) = D) := by show _ = _; rw [← HX4.out, if_pos ⟨hn, hvc⟩]
                  have hvb : (v == cc) = true := by simp [hvc]
                  clear hvc
                  go_wp2_with fail
                  go_roundw
                  case rel => exact ⟨j + 1, next + 1, by omega, by go_num, by go_num, by omega, HN.out, HB10.out⟩
                  case measure => simp [intOf]; omega
                · have HN : Hid (D = false) := by show _ = _; rw [← HX4.out, if_neg (fun h => hvc h.2)]
                  have hvb : (v == cc) = false := by simp [hvc]
                  clear hvc
                  go_wp2_with fail
                  go_ret
                  exact ⟨by rw [HN.out]; rfl, HB2.out.then HB10.out⟩
              · have hni : ¬ (next : Int) < (d.cols.length : Int) := by omega
                have HN : Hid (D = false) := by show _ = _; rw [← HX4.out, if_neg (fun h => hn h.1)]
                go_wp2_with fail
                go_ret
                exact ⟨by rw [HN.out]; rfl, HB2.out.then HB10.out⟩
          · have HF2 : Hid (D = false) := by show _ = _; rw [← HX2.out, if_pos hft]
            have hftb : (Pn.ofT p.x s.at_ != (f : Int)) = true := by simp [hft]
            clear hft
            go_wp2_with fail
            repeat' (first | (refine hZ _ _ ?_; clear hZ) | (refine hZ _ ?_; clear hZ) | (refine hZ ?_; clear hZ) | rw [again_nil] | rw [walk_fin] | ((first | rw [walk_take] | rw [walk_run] | rw [again_cons]); intro Z hZ; simp only [sel, List.getElem?_toArray, List.getElem?_cons_zero, List.getElem?_cons_succ]; go_wp2_with (fail)))
            go_wp2_with fail
            go_ret
            exact ⟨by rw [HF2.out]; rfl, HB2.out.then HB9.out⟩
      · have hjj : ¬ (j : Int) < (p.x.ord.length : Int) := by omega
        have HF2 : Hid (D = true) := by show _ = _; rw [← HE.out, List.drop_eq_nil_of_le (by omega)]; rfl
        go_wp2_with fail
        go_ret
        exact ⟨by rw [HF2.out]; rfl, HB2.out.then HBW.out⟩
end Go.Proofs.YtjdffhonljhpcaaGreat
end

section
/-
  The contract of plan's uses, where a plan uses its index by what holds.
-/
namespace Go.Proofs.YtjdffhonljhpcaaGreat
set_option linter.unusedSimpArgs false
set_option linter.unusedVariables false
open Go.RowKit

namespace Pm
theorem e_fr (p : Pm) : p.e.fr = p.fr := by cases p; rfl
theorem e_ix (p : Pm) : p.e.ix = p.ix := by cases p; rfl
theorem e_low (p : Pm) : p.e.low = p.low := by cases p; rfl
theorem e_high (p : Pm) : p.e.high = p.high := by cases p; rfl
end Pm
/-- What a part of Where is asked of. -/
def PartOk (x : Pn.PX) (k at_ : Int) (given : Nat) (ops : List (List UInt8)) : Prop := 0 ≤ k ∧ k < (x.wh.length : Int) ∧ Pn.agst x (x.wh.getD k.toNat Nd.nil) at_ given ops = true
set_option maxRecDepth 20000 in
set_option maxHeartbeats 8000000 in
theorem pluses_any (w : World) (p : Qp) (hp : QpIn w p) (hs : Pn.Sh p.x) (da : Option Addr) (dc : Nat) (hd : DfsIn w da p.x.defs) (l : Pm) (hl : PmRd w l) (given : Nat) (hg16 : given < 16) (hu : Pn.UsesOk p.x l.e given) (W : World) (hB : Below w.heap.size w W) :
    Calls Tryz.prog 39 #[p.v, .slice da p.x.defs.length dc, l.v, .int .u8 given] W (RetBo W true) := by
  have HP := Lib.hid (hp.below hB)
  have HS := Lib.hid hs
  have HDF := Lib.hid (hd.below hB)
  have HLR := Lib.hid (hl.later hB)
  have hel2 := hl.eql
  have hdl := hd.len
  have hwl := hp.wl
  have htl := hp.tl
  obtain ⟨f0, f1, i0, i1, hfit, hlen, hlook, heqs, hlow, hhigh⟩ := hu
  rw [Pm.e_fr] at f0 f1 hfit heqs hlow hhigh
  unfold Pn.defAt at hfit hlen heqs hlow hhigh
  rw [Pm.e_ix] at i0 i1 hfit hlen heqs hlow hhigh
  rw [Pm.e_eql] at hlen hlook heqs hlow hhigh
  rw [Pm.e_op, Pm.e_low, Pm.e_high] at hlook
  rw [Pm.e_low] at hlow
  rw [Pm.e_high] at hhigh
  obtain ⟨i, hi⟩ : ∃ i : Nat, l.ix = (i : Int) := ⟨l.ix.toNat, by omega⟩
  obtain ⟨f, hf⟩ : ∃ f : Nat, l.fr = (f : Int) := ⟨l.fr.toNat, by omega⟩
  have hil : i < p.x.defs.length := by omega
  have hfl : f < p.x.T.length := by omega
  obtain ⟨d, hd0⟩ : ∃ d, p.x.defs[i] = d := ⟨_, rfl⟩
  have hgd : p.x.defs.getD l.ix.toNat ⟨0, none, [], 0, false⟩ = d := by rw [hi, Int.toNat_natCast, ← hd0]; simp [List.getD, hil]
  rw [hgd] at hfit hlen heqs hlow hhigh
  rw [hf, Int.toNat_natCast] at hfit heqs hlow hhigh
  have HFIT : Hid (Pn.fits p.x (f : Int) (i : Int) = true) := by
    show _ = _
    unfold Pn.fits
    rw [Int.toNat_natCast, Int.toNat_natCast, show p.x.defs.getD i ⟨0, none, [], 0, false⟩ = d by rw [← hd0]; simp [List.getD, hil], hfit, Bool.and_true]
    exact decide_eq_true ⟨by omega, by omega, by omega, by omega⟩
  have HCOL : Hid (∀ j (hj : j < p.x.defs[i].cols.length), 0 ≤ p.x.defs[i].cols[j] ∧ p.x.defs[i].cols[j] ≤ 24) := by
    intro j hj
    have h := hfit
    rw [← hd0] at h
    unfold Pn.fitsD at h
    simp only [Bool.and_eq_true] at h
    have h2 := List.all_eq_true.1 h.2 _ (List.getElem_mem hj)
    rw [decide_eq_true_eq] at h2
    have := hs.lt f hfl
    omega
  have HEQ : Hid (∀ j k, l.eq[j]? = some k → PartOk p.x k (Pn.b p.x f + d.cols.getD j 0) given [[61]]) := heqs
  have HLO : Hid (l.low < 0 ∨ l.eq.length < d.cols.length ∧ PartOk p.x l.low (Pn.b p.x f + d.cols.getD l.eq.length 0) 0 Pn.opGt) := by
    rcases hlow with h | ⟨h1, h2, h3, h4⟩
    · exact .inl h
    · exact .inr ⟨h3, h1, h2, h4⟩
  have HHI : Hid (l.high < 0 ∨ l.eq.length < d.cols.length ∧ PartOk p.x l.high (Pn.b p.x f + d.cols.getD l.eq.length 0) 0 Pn.opLt) := by
    rcases hhigh with h | ⟨h1, h2, h3, h4⟩
    · exact .inl h
    · exact .inr ⟨h3, h1, h2, h4⟩
  have hdm : d ∈ p.x.defs := by rw [← hd0]; exact List.getElem_mem hil
  have hcp := HDF.out.cp d hdm
  have hcl := HDF.out.cl d hdm
  have HLK := Lib.hid hlook
  have HFR := Lib.hid hf
  have HIX := Lib.hid hi
  have HD0 := Lib.hid hd0
  have hii : (i : Int) < (p.x.defs.length : Int) := by omega
  have hel : ¬ (d.cols.length : Int) < (l.eq.length : Int) := by omega
  obtain ⟨bd, od, had, -, -, -⟩ := df_at HDF.out.r hil
  have HQ9 : Hid (∀ V, Below W.heap.size W V → V.cell? ⟨bd, od + i * 3 + 1, none⟩ = some (.slice d.a d.cols.length d.c)) := fun V hV => by
    obtain ⟨b', o', e', -, -, q1⟩ := df_at (HDF.out.r.below hV) hil
    rw [had] at e'
    cases e'
    rw [hd0] at q1
    exact q1
  subst had
  clear hp hs hd hl hfit hlook heqs hlow hhigh hdm hcp hgd hd0 hi hf f0 f1 i0 i1 hlen
  go_enter Tryz.func39, Tryz.ntmps39
  go_upto_region 1 with (first | (refine wpList_box_qp rfl (.tmp 0) rfl p rfl ?_; intro W1 hb1 hz1 hB1) | (refine wpList_box_pm rfl (.tmp 2) rfl l rfl ?_; intro W2 hb2 hz2 hB2))
  have HB2 := Lib.hid (hB1.then hB2)
  have HQ := Lib.hid (hb1.below hB2)
  have HL := Lib.hid hb2
  obtain ⟨g4, hg4⟩ : ∃ g, W.heap.size = g := ⟨_, rfl⟩
  rw [hg4] at HQ ⊢
  generalize W1.heap.size = g6 at HL ⊢
  clear hb1 hB1 hB2 hz1 hz2 hb2 hg4
  go_cut [56] from 15 to 56 (fun v wx => Hid (v = .bool false ∧ Below W.heap.size W wx ∧ Blk wx g4 36 p.cells ∧ Blk wx g6 44 l.cells))
  case first =>
    have HBD : Hid (Below W.heap.size W W2.drew) := HB2.out.drewR
    have hqd := HQ.out.drew
    obtain ⟨-, c1, c2, -⟩ := Blk.pm HL.out.drew
    rw [HFR.out] at c1
    rw [HIX.out] at c2
    refine wp_region_plan (.take 0 (.take 1 (.take 2 (.take 3 (.take 4 (.take 5 (.run 6 [] (.take 7 (.take 8 (.take 9 (.take 10 (.take 11 (.take 12 (.take 13 (.take 14 (.take 15 (.take 16 (.take 17 (.take 18 (.take 19 (.take 20 (.take 21 (.take 22 (.take 23 (.take 24 (.take 25 (.take 26 (.take 27 (.take 28 (.take 29 (.take 30 (.take 31 (.take 32 (.take 33 (.take 34 (.take 35 (.take 36 (.take 37 (.take 38 (.take 39 (.take 40 (.take 41 .fin)))))))))))))))))))))))))))))))))))))))))) (by kernel_rfl) (by kernel_rfl) (by kernel_rfl) (by kernel_rfl) ?_
    repeat' (first | (refine hZ _ _ ?_; clear hZ) | (refine hZ _ ?_; clear hZ) | (refine hZ ?_; clear hZ) | rw [again_nil] | rw [walk_fin] | ((first | rw [walk_take] | rw [walk_run] | rw [again_cons]); intro Z hZ; simp only [sel, List.getElem?_toArray, List.getElem?_cons_zero, List.getElem?_cons_succ]; go_wp2_with (refine wpList_load_qp0 rfl (.tmp 4) rfl g4 rfl hqd ?_)))
    refine (plfits_any W2.drew p (HP.out.below HBD.out) HS.out _ dc (HDF.out.below HBD.out) f i).mono ?_
    rw [HFIT.out]
    rintro e W3 ⟨rfl, hB3⟩
    have HB3 := Lib.hid (HBD.out.then hB3)
    have HQ3 := Lib.hid (hqd.below hB3)
    have HL3 := Lib.hid (HL.out.drew.below hB3)
    clear hB3 hqd c1 c2 HQ HL HBD
    obtain ⟨c0, c1, c2, c3, c4, c5, -⟩ := Blk.pm HL3.out
    rw [HFR.out] at c1
    rw [HIX.out] at c2
    have qd := HQ9.out W3 HB3.out
    by_cases hop : l.op = 4
    · have k4 : (l.op == 4) = true := by simp [hop]
      obtain ⟨hne, h1, h2⟩ := HLK.out hop
      have hl0 : 0 < l.eq.length := List.length_pos_iff.2 hne
      have ke : ((l.eq.length : Int) == 0) = false := beq_eq_false_iff_ne.2 (by omega)
      clear hop hne
      go_wp2_with fail
      repeat' (first | (refine hZ _ _ ?_; clear hZ) | (refine hZ _ ?_; clear hZ) | (refine hZ ?_; clear hZ) | rw [again_nil] | rw [walk_fin] | ((first | rw [walk_take] | rw [walk_run] | rw [again_cons]); intro Z hZ; simp only [sel, List.getElem?_toArray, List.getElem?_cons_zero, List.getElem?_cons_succ]; go_wp2_with (fail)))
      go_wp2_with fail
      go_meet
      case rel => exact ⟨by simp; omega, HB3.out, HQ3.out, HL3.out⟩
    · have k4 : (l.op == 4) = false := by simp [hop]
      clear hop
      go_wp2_with fail
      repeat' (first | (refine hZ _ _ ?_; clear hZ) | (refine hZ _ ?_; clear hZ) | (refine hZ ?_; clear hZ) | rw [again_nil] | rw [walk_fin] | ((first | rw [walk_take] | rw [walk_run] | rw [again_cons]); intro Z hZ; simp only [sel, List.getElem?_toArray, List.getElem?_cons_zero, List.getElem?_cons_succ]; go_wp2_with (fail)))
      go_wp2_with fail
      go_meet
      case rel => exact ⟨by simp; omega, HB3.out, HQ3.out, HL3.out⟩
  case rest =>
    obtain ⟨rfl, hB3, hq3, hl3⟩ := hcut.out
    have HB3 := Lib.hid hB3
    have HL3 := Lib.hid hl3
    obtain ⟨q0, q1, q2, q3, q4, q5, q6, q7, q8⟩ := Blk.qp9 (Blk.qp90 hq3)
    go_upto_region 4 with fail
    generalize hW4 : World.alloc wc (.cells _ _) = W4
    obtain ⟨ba4, hz4, hB4⟩ := fresh1 hW4
    clear hW4
    obtain ⟨g9, hg9⟩ : ∃ g, wc.heap.size = g := ⟨_, rfl⟩
    have HW4 : Hid (Blk W4 g9 61 (p.cells ++ (.slice (some ⟨bd, od, none⟩) p.x.defs.length dc :: [.slice none 0 0, .slice none 0 0, .slice none 0 0]))) := by show Blk _ _ _ _; rw [← hg9]; exact ba4
    have HQ4 := Lib.hid (hq3.below hB4)
    have HL4 := Lib.hid (HL3.out.below hB4)
    have HB4 := Lib.hid (HB3.out.then hB4)
    rw [hg9]
    clear hcut hB3 hq3 hl3 q0 q1 q2 q3 q4 q5 q6 q7 q8 ba4 hz4 hB4 hg9 HB3 HL3 HB2 HQ HL
    obtain ⟨-, -, -, c3, -⟩ := Blk.pm HL4.out
    go_upto_region 5 with fail
    clear c3
    go_loopw [64] (fun jv wr => ∃ j : Nat, j ≤ l.eq.length ∧ jv = .int .i64 (j : Int) ∧ Hid (Below W4.heap.size W4 wr)) (fun jv _ => l.eq.length - (intOf jv).toNat)
    case atStart => exact ⟨0, Nat.zero_le _, by go_num, Below.refl _ _⟩
    case round =>
      obtain ⟨j, hj, rfl, HJ⟩ := hrel
      by_cases hlt : j < l.eq.length
      · have hji : (j : Int) < (l.eq.length : Int) := by omega
        have hjl : j < d.cols.length := by omega
        obtain ⟨bc, oc, hac, -, hce⟩ := int_at (HLR.out.eqr.below (HB4.out.then HJ.out)) hlt
        have HPK := Lib.hid (HEQ.out j l.eq[j] (List.getElem?_eq_getElem hlt))
        obtain ⟨kn, hkn⟩ : ∃ kn : Nat, l.eq[j] = (kn : Int) := ⟨l.eq[j].toNat, by have := HPK.out.1; omega⟩
        rw [hkn] at hce HPK
        have hix : (Instr.indexAt 33 (.slice l.ea l.eq.length l.ec) (.int .i64 (j : Int))).run Tryz.prog wr = .ok (.pointer (some ⟨bc, oc + j, none⟩)) wr := by rw [hac]; go_simp
        have hkl : kn < p.x.wh.length := by have := HPK.out.2.1; omega
        have hki : (kn : Int) < (p.x.wh.length : Int) := by omega
        have hk0 : ¬ (kn : Int) < 0 := by omega
        have hkb : (kn : Int) ≤ 9223372036854775807 := by omega
        clear hac hkn
        go_upto_region 7 with fail
        clear hix hce
        have HBD : Hid (Below W4.heap.size W4 wr.drew) := HJ.out.drewR
        have HBW : Hid (Below W.heap.size W wr.drew) := HB4.out.then HBD.out
        obtain ⟨n, hn⟩ : ∃ n, p.x.wh[kn] = n := ⟨_, rfl⟩
        have HN := Lib.hid hn
        have HAG : Hid (Pn.agst p.x n (Pn.b p.x f + p.x.defs[i].cols[j]'(by rw [HD0.out]; exact hjl)) given [[61]] = true) := by
          have h := HPK.out.2.2
          rw [Int.toNat_natCast] at h
          show _ = _
          rw [← h, ← hn]
          congr 1
          · simp [List.getD, hkl]
          · simp [List.getD, hjl, HD0.out]
        obtain ⟨bw, ow, haw, -, -⟩ := (HP.out.wn.below HBW.out).at_ hkl
        have HRW : Hid (∀ V, Below W.heap.size W V → ERow eNd V (some ⟨bw, ow, none⟩) p.x.wh) := fun V hV => by rw [← haw]; exact HP.out.wn.below hV
        have hixw : ∀ V : World, (Instr.indexAt 25 (.slice p.wa p.x.wh.length p.wc) (.int .i64 (kn : Int))).run Tryz.prog V = .ok (.pointer (some ⟨bw, ow + kn * 10, none⟩)) V := by intro V; rw [haw]; go_simp
        have hixd := hixw wr.drew
        obtain ⟨q0, q1, q2, q3, q4, q5, q6, q7, q8⟩ := Blk.qp9 (Blk.qp90 (HQ4.out.below HBD.out))
        obtain ⟨z0, z1, z2, z3, z4, z5, z6, z7, z8, z9⟩ := nd_cells (HRW.out _ HBW.out) hkl n HN.out
        obtain ⟨-, c1, c2, -⟩ := Blk.pm (HL4.out.below HBD.out)
        rw [HFR.out] at c1
        rw [HIX.out] at c2
        clear haw hn HPK HEQ
        go_cut [95] from 69 to 95 (fun v wx => Hid (v = .bool false ∧ Below W4.heap.size W4 wx))
        case first =>
          refine wp_region_plan (.take 0 (.take 1 (.take 2 (.take 3 (.take 4 (.take 5 (.take 6 (.take 7 (.take 8 (.take 9 (.take 10 (.take 11 (.take 12 (.take 13 (.take 14 (.take 15 (.take 16 (.take 17 (.take 18 (.take 19 (.take 20 (.take 21 (.take 23 (.run 22 [10, 11, 12, 13, 14, 15, 23] (.run 24 [] (.take 25 (.take 26 .fin))))))))))))))))))))))))))) (by kernel_rfl) (by kernel_rfl) (by kernel_rfl) (by kernel_rfl) ?_
          repeat' (first | (refine hZ _ _ ?_; clear hZ) | (refine hZ _ ?_; clear hZ) | (refine hZ ?_; clear hZ) | rw [again_nil] | rw [walk_fin] | ((first | rw [walk_take] | rw [walk_run] | rw [again_cons]); intro Z hZ; simp only [sel, List.getElem?_toArray, List.getElem?_cons_zero, List.getElem?_cons_succ]; go_wp2_with (fail)))
          refine (plcol_any wr.drew g9 _ p _ dc _ (HW4.out.below HBD.out) (HP.out.below HBW.out) HS.out (HDF.out.below HBW.out) f i j hfl hil (by rw [HD0.out]; exact hjl) (HCOL.out j (by rw [HD0.out]; exact hjl)).1 (HCOL.out j (by rw [HD0.out]; exact hjl)).2).mono ?_
          rintro e W5 ⟨rfl, hB5⟩
          have HB5 := Lib.hid (HBD.out.then hB5)
          have HBW5 : Hid (Below W.heap.size W W5) := HBW.out.then hB5
          clear hB5 q0 q1 q2 q3 q4 q5 q6 q7 q8 z0 z1 z2 z3 z4 z5 z6 z7 z8 z9 c1 c2 hixd
          have hixd := hixw W5
          obtain ⟨q0, q1, q2, q3, q4, q5, q6, q7, q8⟩ := Blk.qp9 (Blk.qp90 (HQ4.out.below HB5.out))
          obtain ⟨z0, z1, z2, z3, z4, z5, z6, z7, z8, z9⟩ := nd_cells (HRW.out _ HBW5.out) hkl n HN.out
          have HNI : Hid (NodeIn W n) := by show NodeIn _ _; rw [← HN.out]; exact HP.out.nin _ (List.getElem_mem hkl)
          go_wp2_with fail
          repeat' (first | (refine hZ _ _ ?_; clear hZ) | (refine hZ _ ?_; clear hZ) | (refine hZ ?_; clear hZ) | rw [again_nil] | rw [walk_fin] | ((first | rw [walk_take] | rw [walk_run] | rw [again_cons]); intro Z hZ; simp only [sel, List.getElem?_toArray, List.getElem?_cons_zero, List.getElem?_cons_succ]; go_wp2_with (fail)))
          refine (show Calls _ _ #[p.v, n.v, _, _] _ _ from plequal_any W5 p (HP.out.below HBW5.out) (by rw [HS.out.bl]; exact HS.out.t4) n (nd_below15 HNI.out HBW5.out) _ given hg16).mono ?_
          rw [HAG.out]
          rintro e W6 ⟨rfl, hB6⟩
          have HB6 := Lib.hid (HB5.out.then hB6)
          clear hB6 q0 q1 q2 q3 q4 q5 q6 q7 q8 z0 z1 z2 z3 z4 z5 z6 z7 z8 z9 hixd
          go_wp2_with fail
          repeat' (first | (refine hZ _ _ ?_; clear hZ) | (refine hZ _ ?_; clear hZ) | (refine hZ ?_; clear hZ) | rw [again_nil] | rw [walk_fin] | ((first | rw [walk_take] | rw [walk_run] | rw [again_cons]); intro Z hZ; simp only [sel, List.getElem?_toArray, List.getElem?_cons_zero, List.getElem?_cons_succ]; go_wp2_with (fail)))
          go_wp2_with fail
          go_meet
          case rel => exact ⟨by simp; omega, HB6.out⟩
        case rest =>
          obtain ⟨rfl, hB6⟩ := hcut.out
          have HB6 := Lib.hid hB6
          clear hcut hB6 q0 q1 q2 q3 q4 q5 q6 q7 q8 z0 z1 z2 z3 z4 z5 z6 z7 z8 z9 c1 c2 hixd hixw
          go_wp2_with fail
          go_roundw
          case rel => exact ⟨j + 1, by omega, by go_num, HB6.out⟩
          case measure => simp [intOf]; omega
      · have hji : ¬ (j : Int) < (l.eq.length : Int) := by omega
        have HBr := Lib.hid (HB4.out.then HJ.out)
        have HQr := Lib.hid (HQ4.out.below HJ.out)
        have HLr := Lib.hid (HL4.out.below HJ.out)
        have HWr := Lib.hid (HW4.out.below HJ.out)
        clear HJ HQ4 HL4 HW4 HB4 HEQ hj
        obtain ⟨-, -, -, -, c4, c5, -⟩ := Blk.pm HLr.out
        go_upto_region 11 with fail
        generalize hW10 : World.alloc wr (.cells _ _) = W10
        obtain ⟨ba10, hz10, hB10⟩ := fresh1 hW10
        clear hW10
        obtain ⟨gk, hgk⟩ : ∃ g, wr.heap.size = g := ⟨_, rfl⟩
        rw [hgk] at ba10 ⊢
        have HR := Lib.hid ba10
        have HQ4 := Lib.hid (HQr.out.below hB10)
        have HL4 := Lib.hid (HLr.out.below hB10)
        have HW4 := Lib.hid (HWr.out.below hB10)
        have HB4 := Lib.hid (HBr.out.then hB10)
        clear HBr HQr HLr HWr c4 c5 ba10 hz10 hB10 hgk
        go_loopw [103] (fun jv wx => ∃ m : Nat, m ≤ 2 ∧ jv = .int .i64 (m : Int) ∧ Hid (Below W10.heap.size W10 wx)) (fun jv _ => 2 - (intOf jv).toNat)
        case atStart => exact ⟨0, Nat.zero_le _, by go_num, Below.refl _ _⟩
        case round =>
          obtain ⟨m, hm, rfl, HJ⟩ := hrel
          obtain ⟨r0, r1, -⟩ := Blk.c2 (HR.out.below HJ.out)
          obtain hm0 | hm1 | hm2 : m = 0 ∨ m = 1 ∨ m = 2 := by omega
          · subst hm0
            go_upto_region 14 with fail
            generalize hW13 : (((World.alloc wr (.cells _ _)).alloc (.cells _ _)).alloc (.cells _ _)) = W13
            obtain ⟨ba13, bb13, bc13, hz13, hB13⟩ := fresh3 hW13
            clear hW13
            have HB13 : Hid (Below W10.heap.size W10 W13) := HJ.out.then hB13
            have HBW13 : Hid (Below W.heap.size W W13) := HB4.out.then HB13.out
            have HOP : Hid (ERow eStr W13 (some ⟨wr.heap.size + 0, 0, none⟩) Pn.opGt) := Blk.row eStr ba13 _ rfl (by show 2 ≤ maxLen; decide)
            clear ba13 bb13 bc13 hz13 hB13 r0 r1 HR
            by_cases hneg : l.low < 0
            · go_wp2_with fail
              go_roundw
              case rel => exact ⟨0 + 1, by omega, by go_num, HB13.out⟩
              case measure => simp [intOf]
            · have hpk : l.eq.length < d.cols.length ∧ PartOk p.x l.low (Pn.b p.x f + d.cols.getD l.eq.length 0) 0 Pn.opGt := by
                rcases HLO.out with h | h
                · exact absurd h hneg
                · exact h
              have hjl := hpk.1
              have HPK := Lib.hid hpk.2
              obtain ⟨kn, hkn⟩ : ∃ kn : Nat, l.low = (kn : Int) := ⟨l.low.toNat, by omega⟩
              rw [hkn] at HPK
              have HKN := Lib.hid hkn
              have hkl : kn < p.x.wh.length := by have := HPK.out.2.1; omega
              have hki : l.low < (p.x.wh.length : Int) := by omega
              have hkb : l.low ≤ 9223372036854775807 := by omega
              clear hkn hpk
              have hje : (l.eq.length : Int) < (d.cols.length : Int) := by omega
              go_upto_region 15 with fail
              have HBD : Hid (Below W10.heap.size W10 W13.drew) := HB13.out.drewR
              have HBW : Hid (Below W.heap.size W W13.drew) := HBW13.out.drewR
              have HOPD : Hid (∀ V, Below W13.heap.size W13 V → ERow eStr V (some ⟨wr.heap.size + 0, 0, none⟩) Pn.opGt) := fun V hV => HOP.out.below hV
              obtain ⟨n, hn⟩ : ∃ n, p.x.wh[kn] = n := ⟨_, rfl⟩
              have HN := Lib.hid hn
              have HAG : Hid (Pn.agst p.x n (Pn.b p.x f + p.x.defs[i].cols[l.eq.length]'(by rw [HD0.out]; exact hjl)) 0 Pn.opGt = true) := by
                have h := HPK.out.2.2
                rw [Int.toNat_natCast] at h
                show _ = _
                rw [← h, ← hn]
                congr 1
                · simp [List.getD, hkl]
                · simp [List.getD, hjl, HD0.out]
              obtain ⟨bw, ow, haw, -, -⟩ := (HP.out.wn.below HBW.out).at_ hkl
              have HRW : Hid (∀ V, Below W.heap.size W V → ERow eNd V (some ⟨bw, ow, none⟩) p.x.wh) := fun V hV => by rw [← haw]; exact HP.out.wn.below hV
              have hixw : ∀ V : World, (Instr.indexAt 25 (.slice p.wa p.x.wh.length p.wc) (.int .i64 l.low)).run Tryz.prog V = .ok (.pointer (some ⟨bw, ow + kn * 10, none⟩)) V := by
                intro V
                have hki2 : (kn : Int) < (p.x.wh.length : Int) := by omega
                rw [haw, HKN.out]
                go_simp
              have hixd := hixw W13.drew
              obtain ⟨q0, q1, q2, q3, q4, q5, q6, q7, q8⟩ := Blk.qp9 (Blk.qp90 (HQ4.out.below HBD.out))
              obtain ⟨z0, z1, z2, z3, z4, z5, z6, z7, z8, z9⟩ := nd_cells (HRW.out _ HBW.out) hkl n HN.out
              obtain ⟨-, c1, c2, c3, -⟩ := Blk.pm (HL4.out.below HBD.out)
              rw [HFR.out] at c1
              rw [HIX.out] at c2
              have qd := HQ9.out _ HBW.out
              clear haw hn HPK
              go_cut [153] from 116 to 153 (fun v wx => Hid (v = .bool false ∧ Below W10.heap.size W10 wx))
              case first =>
                refine wp_region_plan (.take 0 (.take 1 (.take 2 (.take 3 (.take 4 (.take 5 (.take 6 (.take 7 (.take 8 (.take 9 (.take 10 (.take 11 (.take 12 (.take 13 (.take 14 (.take 15 (.take 16 (.take 17 (.take 18 (.take 19 (.take 20 (.take 21 (.take 22 (.take 23 (.take 24 (.take 25 (.take 26 (.take 27 (.take 28 (.take 29 (.take 30 (.take 31 (.take 32 (.take 34 (.run 33 [19, 20, 21, 22, 23, 24, 34] (.run 35 [] (.take 36 (.take 37 .fin)))))))))))))))))))))))))))))))))))))) (by kernel_rfl) (by kernel_rfl) (by kernel_rfl) (by kernel_rfl) ?_
                repeat' (first | (refine hZ _ _ ?_; clear hZ) | (refine hZ _ ?_; clear hZ) | (refine hZ ?_; clear hZ) | rw [again_nil] | rw [walk_fin] | ((first | rw [walk_take] | rw [walk_run] | rw [again_cons]); intro Z hZ; simp only [sel, List.getElem?_toArray, List.getElem?_cons_zero, List.getElem?_cons_succ]; go_wp2_with (fail)))
                refine (plcol_any W13.drew g9 _ p _ dc _ (HW4.out.below HBD.out) (HP.out.below HBW.out) HS.out (HDF.out.below HBW.out) f i l.eq.length hfl hil (by rw [HD0.out]; exact hjl) (HCOL.out l.eq.length (by rw [HD0.out]; exact hjl)).1 (HCOL.out l.eq.length (by rw [HD0.out]; exact hjl)).2).mono ?_
                rintro e W5 ⟨rfl, hB5⟩
                have HB5 := Lib.hid (HBD.out.then hB5)
                have HBW5 : Hid (Below W.heap.size W W5) := HBW.out.then hB5
                have HOP5 := Lib.hid (HOPD.out W5 ((Below.refl _ _).drewR.then hB5))
                clear hB5 q0 q1 q2 q3 q4 q5 q6 q7 q8 z0 z1 z2 z3 z4 z5 z6 z7 z8 z9 c1 c2 c3 qd hixd
                have hixd := hixw W5
                obtain ⟨q0, q1, q2, q3, q4, q5, q6, q7, q8⟩ := Blk.qp9 (Blk.qp90 (HQ4.out.below HB5.out))
                obtain ⟨z0, z1, z2, z3, z4, z5, z6, z7, z8, z9⟩ := nd_cells (HRW.out _ HBW5.out) hkl n HN.out
                have HNI : Hid (NodeIn W n) := by show NodeIn _ _; rw [← HN.out]; exact HP.out.nin _ (List.getElem_mem hkl)
                go_wp2_with fail
                repeat' (first | (refine hZ _ _ ?_; clear hZ) | (refine hZ _ ?_; clear hZ) | (refine hZ ?_; clear hZ) | rw [again_nil] | rw [walk_fin] | ((first | rw [walk_take] | rw [walk_run] | rw [again_cons]); intro Z hZ; simp only [sel, List.getElem?_toArray, List.getElem?_cons_zero, List.getElem?_cons_succ]; go_wp2_with (fail)))
                refine (show Calls _ _ #[p.v, n.v, _, _, _] _ _ from plagst_any W5 p (HP.out.below HBW5.out) (by rw [HS.out.bl]; exact HS.out.t4) n (nd_below15 HNI.out HBW5.out) _ 0 (by decide) _ 2 Pn.opGt HOP5.out (by decide)).mono ?_
                rw [HAG.out]
                rintro e W6 ⟨rfl, hB6⟩
                have HB6 := Lib.hid (HB5.out.then hB6)
                clear hB6 q0 q1 q2 q3 q4 q5 q6 q7 q8 z0 z1 z2 z3 z4 z5 z6 z7 z8 z9 hixd
                go_wp2_with fail
                repeat' (first | (refine hZ _ _ ?_; clear hZ) | (refine hZ _ ?_; clear hZ) | (refine hZ ?_; clear hZ) | rw [again_nil] | rw [walk_fin] | ((first | rw [walk_take] | rw [walk_run] | rw [again_cons]); intro Z hZ; simp only [sel, List.getElem?_toArray, List.getElem?_cons_zero, List.getElem?_cons_succ]; go_wp2_with (fail)))
                go_wp2_with fail
                go_meet
                case rel => exact ⟨by simp; omega, HB6.out⟩
              case rest =>
                obtain ⟨rfl, hB6⟩ := hcut.out
                have HB6 := Lib.hid hB6
                clear hcut hB6 q0 q1 q2 q3 q4 q5 q6 q7 q8 z0 z1 z2 z3 z4 z5 z6 z7 z8 z9 c1 c2 c3 qd hixd hixw
                go_wp2_with fail
                go_roundw
                case rel => exact ⟨0 + 1, by omega, by go_num, HB6.out⟩
                case measure => simp [intOf]
          · subst hm1
            go_upto_region 14 with fail
            generalize hW13 : (((World.alloc wr (.cells _ _)).alloc (.cells _ _)).alloc (.cells _ _)) = W13
            obtain ⟨ba13, bb13, bc13, hz13, hB13⟩ := fresh3 hW13
            clear hW13
            have HB13 : Hid (Below W10.heap.size W10 W13) := HJ.out.then hB13
            have HBW13 : Hid (Below W.heap.size W W13) := HB4.out.then HB13.out
            have HOP : Hid (ERow eStr W13 (some ⟨wr.heap.size + 1, 0, none⟩) Pn.opLt) := Blk.row eStr bb13 _ rfl (by show 2 ≤ maxLen; decide)
            clear ba13 bb13 bc13 hz13 hB13 r0 r1 HR
            by_cases hneg : l.high < 0
            · go_wp2_with fail
              go_roundw
              case rel => exact ⟨1 + 1, by omega, by go_num, HB13.out⟩
              case measure => simp [intOf]
            · have hpk : l.eq.length < d.cols.length ∧ PartOk p.x l.high (Pn.b p.x f + d.cols.getD l.eq.length 0) 0 Pn.opLt := by
                rcases HHI.out with h | h
                · exact absurd h hneg
                · exact h
              have hjl := hpk.1
              have HPK := Lib.hid hpk.2
              obtain ⟨kn, hkn⟩ : ∃ kn : Nat, l.high = (kn : Int) := ⟨l.high.toNat, by omega⟩
              rw [hkn] at HPK
              have HKN := Lib.hid hkn
              have hkl : kn < p.x.wh.length := by have := HPK.out.2.1; omega
              have hki : l.high < (p.x.wh.length : Int) := by omega
              have hkb : l.high ≤ 9223372036854775807 := by omega
              clear hkn hpk
              have hje : (l.eq.length : Int) < (d.cols.length : Int) := by omega
              go_upto_region 15 with fail
              have HBD : Hid (Below W10.heap.size W10 W13.drew) := HB13.out.drewR
              have HBW : Hid (Below W.heap.size W W13.drew) := HBW13.out.drewR
              have HOPD : Hid (∀ V, Below W13.heap.size W13 V → ERow eStr V (some ⟨wr.heap.size + 1, 0, none⟩) Pn.opLt) := fun V hV => HOP.out.below hV
              obtain ⟨n, hn⟩ : ∃ n, p.x.wh[kn] = n := ⟨_, rfl⟩
              have HN := Lib.hid hn
              have HAG : Hid (Pn.agst p.x n (Pn.b p.x f + p.x.defs[i].cols[l.eq.length]'(by rw [HD0.out]; exact hjl)) 0 Pn.opLt = true) := by
                have h := HPK.out.2.2
                rw [Int.toNat_natCast] at h
                show _ = _
                rw [← h, ← hn]
                congr 1
                · simp [List.getD, hkl]
                · simp [List.getD, hjl, HD0.out]
              obtain ⟨bw, ow, haw, -, -⟩ := (HP.out.wn.below HBW.out).at_ hkl
              have HRW : Hid (∀ V, Below W.heap.size W V → ERow eNd V (some ⟨bw, ow, none⟩) p.x.wh) := fun V hV => by rw [← haw]; exact HP.out.wn.below hV
              have hixw : ∀ V : World, (Instr.indexAt 25 (.slice p.wa p.x.wh.length p.wc) (.int .i64 l.high)).run Tryz.prog V = .ok (.pointer (some ⟨bw, ow + kn * 10, none⟩)) V := by
                intro V
                have hki2 : (kn : Int) < (p.x.wh.length : Int) := by omega
                rw [haw, HKN.out]
                go_simp
              have hixd := hixw W13.drew
              obtain ⟨q0, q1, q2, q3, q4, q5, q6, q7, q8⟩ := Blk.qp9 (Blk.qp90 (HQ4.out.below HBD.out))
              obtain ⟨z0, z1, z2, z3, z4, z5, z6, z7, z8, z9⟩ := nd_cells (HRW.out _ HBW.out) hkl n HN.out
              obtain ⟨-, c1, c2, c3, -⟩ := Blk.pm (HL4.out.below HBD.out)
              rw [HFR.out] at c1
              rw [HIX.out] at c2
              have qd := HQ9.out _ HBW.out
              clear haw hn HPK
              go_cut [153] from 116 to 153 (fun v wx => Hid (v = .bool false ∧ Below W10.heap.size W10 wx))
              case first =>
                refine wp_region_plan (.take 0 (.take 1 (.take 2 (.take 3 (.take 4 (.take 5 (.take 6 (.take 7 (.take 8 (.take 9 (.take 10 (.take 11 (.take 12 (.take 13 (.take 14 (.take 15 (.take 16 (.take 17 (.take 18 (.take 19 (.take 20 (.take 21 (.take 22 (.take 23 (.take 24 (.take 25 (.take 26 (.take 27 (.take 28 (.take 29 (.take 30 (.take 31 (.take 32 (.take 34 (.run 33 [19, 20, 21, 22, 23, 24, 34] (.run 35 [] (.take 36 (.take 37 .fin)))))))))))))))))))))))))))))))))))))) (by kernel_rfl) (by kernel_rfl) (by kernel_rfl) (by kernel_rfl) ?_
                repeat' (first | (refine hZ _ _ ?_; clear hZ) | (refine hZ _ ?_; clear hZ) | (refine hZ ?_; clear hZ) | rw [again_nil] | rw [walk_fin] | ((first | rw [walk_take] | rw [walk_run] | rw [again_cons]); intro Z hZ; simp only [sel, List.getElem?_toArray, List.getElem?_cons_zero, List.getElem?_cons_succ]; go_wp2_with (fail)))
                refine (plcol_any W13.drew g9 _ p _ dc _ (HW4.out.below HBD.out) (HP.out.below HBW.out) HS.out (HDF.out.below HBW.out) f i l.eq.length hfl hil (by rw [HD0.out]; exact hjl) (HCOL.out l.eq.length (by rw [HD0.out]; exact hjl)).1 (HCOL.out l.eq.length (by rw [HD0.out]; exact hjl)).2).mono ?_
                rintro e W5 ⟨rfl, hB5⟩
                have HB5 := Lib.hid (HBD.out.then hB5)
                have HBW5 : Hid (Below W.heap.size W W5) := HBW.out.then hB5
                have HOP5 := Lib.hid (HOPD.out W5 ((Below.refl _ _).drewR.then hB5))
                clear hB5 q0 q1 q2 q3 q4 q5 q6 q7 q8 z0 z1 z2 z3 z4 z5 z6 z7 z8 z9 c1 c2 c3 qd hixd
                have hixd := hixw W5
                obtain ⟨q0, q1, q2, q3, q4, q5, q6, q7, q8⟩ := Blk.qp9 (Blk.qp90 (HQ4.out.below HB5.out))
                obtain ⟨z0, z1, z2, z3, z4, z5, z6, z7, z8, z9⟩ := nd_cells (HRW.out _ HBW5.out) hkl n HN.out
                have HNI : Hid (NodeIn W n) := by show NodeIn _ _; rw [← HN.out]; exact HP.out.nin _ (List.getElem_mem hkl)
                go_wp2_with fail
                repeat' (first | (refine hZ _ _ ?_; clear hZ) | (refine hZ _ ?_; clear hZ) | (refine hZ ?_; clear hZ) | rw [again_nil] | rw [walk_fin] | ((first | rw [walk_take] | rw [walk_run] | rw [again_cons]); intro Z hZ; simp only [sel, List.getElem?_toArray, List.getElem?_cons_zero, List.getElem?_cons_succ]; go_wp2_with (fail)))
                refine (show Calls _ _ #[p.v, n.v, _, _, _] _ _ from plagst_any W5 p (HP.out.below HBW5.out) (by rw [HS.out.bl]; exact HS.out.t4) n (nd_below15 HNI.out HBW5.out) _ 0 (by decide) _ 2 Pn.opLt HOP5.out (by decide)).mono ?_
                rw [HAG.out]
                rintro e W6 ⟨rfl, hB6⟩
                have HB6 := Lib.hid (HB5.out.then hB6)
                clear hB6 q0 q1 q2 q3 q4 q5 q6 q7 q8 z0 z1 z2 z3 z4 z5 z6 z7 z8 z9 hixd
                go_wp2_with fail
                repeat' (first | (refine hZ _ _ ?_; clear hZ) | (refine hZ _ ?_; clear hZ) | (refine hZ ?_; clear hZ) | rw [again_nil] | rw [walk_fin] | ((first | rw [walk_take] | rw [walk_run] | rw [again_cons]); intro Z hZ; simp only [sel, List.getElem?_toArray, List.getElem?_cons_zero, List.getElem?_cons_succ]; go_wp2_with (fail)))
                go_wp2_with fail
                go_meet
                case rel => exact ⟨by simp; omega, HB6.out⟩
              case rest =>
                obtain ⟨rfl, hB6⟩ := hcut.out
                have HB6 := Lib.hid hB6
                clear hcut hB6 q0 q1 q2 q3 q4 q5 q6 q7 q8 z0 z1 z2 z3 z4 z5 z6 z7 z8 z9 c1 c2 c3 qd hixd hixw
                go_wp2_with fail
                go_roundw
                case rel => exact ⟨1 + 1, by omega, by go_num, HB6.out⟩
                case measure => simp [intOf]
          · subst hm2
            go_wp2_with fail
            go_ret
            exact ⟨rfl, HB4.out.then HJ.out⟩
end Go.Proofs.YtjdffhonljhpcaaGreat
end

section
/-
  The contract of plan's covers, at a right plan.
-/
namespace Go.Proofs.YtjdffhonljhpcaaGreat
set_option linter.unusedSimpArgs false
set_option linter.unusedVariables false
open Go.RowKit Go.Maps

/-! ### a map of whole numbers -/
def IMap (w : World) (gm N : Nat) (f : Int → Option Int) : Prop :=
  ∃ D : DataW Unit, w.ownsMap Tryz.prog 3 (plainElem Tryz.prog 3) gm N D ∧ IsMap D ∧
    ∀ k : Int, Ev.inB k → has D (.int .i64 k) = (f k).isSome ∧ ∀ i z, f k = some i → D.atKey (.int .i64 k) z = .lit (.int .i64 i)
theorem int_wf17 {k : Int} (h : Ev.inB k) : (Lit.int .i64 k).wf = true := by
  have h1 := h.1
  have h2 := h.2
  simp [Lit.wf, IntKind.min, IntKind.max, IntKind.signed, IntKind.bits]
  omega
theorem intKeyed17 : Keyed Tryz.prog 3 := int_keyed Tryz.underlying3
theorem int_key17 {k : Int} (h : Ev.inB k) : keyOf Tryz.prog 3 (.int .i64 k) = some (.int .i64 k) := keyOf_int_mk Tryz.underlying3 (int_wf17 h)
theorem IMap.made (w : World) : IMap (w.alloc (.map #[] 0)) w.heap.size 0 (fun _ => none) :=
  ⟨.map [], World.ownsMap_made w _ _ _, isMap_empty, fun k _ => ⟨rfl, fun g z h => by cases h⟩⟩
section
variable {w : World} {ops : Array Oper} {rest : List Oper} {o : Oper} {a : Act} {Q : Exit → Act → World → Prop} {gm N : Nat} {f : Int → Option Int}
/-- m[k] -/
theorem wpList_imap_lookup (hg : o.guard = none) (m x : Operand) (hop : o.op = Op.lookup 92 m x false) (hm : a.eval m = .map (some gm)) (h : IMap w gm N f) (k : Int) (hx : a.eval x = .int .i64 k)
    (hk : Ev.inB k) (hz : (zeroValue 3).run Tryz.prog w = .ok (.int .i64 0) w)
    (hK : wpList Tryz.prog ops Q rest (a.put o.dst (.int .i64 ((f k).getD 0))) w) : wpList Tryz.prog ops Q (o :: rest) a w := by
  obtain ⟨D, hown, hD, hf⟩ := h
  refine wpList_lookup_own_int w hg m x 92 hop 3 3 .i64 intKeyed17 Tryz.underlying92 Tryz.underlying3 hz gm N D hm hown _ _ hx (int_key17 hk) fun c hat _ => ?_
  obtain ⟨e1, e2⟩ := hf k hk
  have hc : c = (f k).getD 0 := by
    cases hfk : f k with
    | none =>
      rw [hfk] at e1
      rw [atKey_of_not_has (by simpa using e1)] at hat
      simp at hat
      simpa using hat.symm
    | some i =>
      rw [e2 i _ hfk] at hat
      simp at hat
      simpa using hat.symm
  rw [hc]
  exact hK
/-- m[k] = i, in a literal -/
theorem wpList_imap_insert (hg : o.guard = none) (hd : o.dst = none) (m x v : Operand) (hop : o.op = Op.insert 92 m x v) (hm : a.eval m = .map (some gm)) (h : IMap w gm N f) (hN : N < 1000000) (k i : Int) (hx : a.eval x = .int .i64 k) (hv : a.eval v = .int .i64 i)
    (hk : Ev.inB k) (hi : Ev.inB i)
    (hK : ∀ w', IMap w' gm (N + 1) (fun j => if j = k then some i else f j) → w.grownBy w' (some gm) → wpList Tryz.prog ops Q rest a w') : wpList Tryz.prog ops Q (o :: rest) a w := by
  obtain ⟨D, hown, hD, hf⟩ := h
  have hput : a.put o.dst undef = a := by rw [hd]; rfl
  refine wpList_plain hg fun K' hK' => ?_
  obtain ⟨w', hrun, hown', ht⟩ := hown.store intKeyed17 Tryz.underlying92 (show N < maxLen by unfold maxLen; omega) (int_key17 hk) (plainElem_int Tryz.underlying3 (int_wf17 hi))
  unfold Oper.wp
  simp [execOp, hop, hm, hx, hv, hrun, Result.andThen]
  refine hK' _ _ ?_
  rw [hput]
  refine hK w' ⟨_, hown', hD.put _ _, fun j hj1 => ?_⟩ ht.grown
  by_cases hj : j = k
  · subst hj
    simp only [if_true]
    refine ⟨by rw [has_put_same hD (by simp [WideAt.IsKeyLit])]; rfl, fun i' z hi' => ?_⟩
    obtain rfl := Option.some.inj hi'
    exact atKey_put_same hD (by simp [WideAt.IsKeyLit]) _ z
  · simp only [if_neg hj]
    have hne : (Lit.int .i64 j) ≠ (Lit.int .i64 k) := by simpa using hj
    obtain ⟨e1, e2⟩ := hf j hj1
    exact ⟨by rw [has_put_other hne]; exact e1, fun i' z hi' => by rw [atKey_put_other hne]; exact e2 i' z hi'⟩
end
theorem and8 : ∀ a < 16, ∀ b < 16, bits BinOp.and IntKind.u8 (a : Nat) (b : Nat) = ((a &&& b : Nat) : Int) := by decide
theorem shl_or : ∀ a < 16, ∀ f < 4, bits BinOp.or IntKind.u8 (a : Nat) ((2 : Int) ^ f % 256) = ((a ||| 2 ^ f : Nat) : Int) := by decide
/-- How many parts an operator has. -/
def manyOf (op : Int) : Int := if op = 3 then 2 else if op = 4 then 1 else if op = 5 then 1 else 0
/-- What covers answers of a right plan. -/
def RetCov (W : World) (m : Nat) (e : Ending) (w' : World) : Prop := e = .returned (.tuple #[.int .u8 (m : Nat), .bool true]) ∧ Below W.heap.size W w'
set_option maxRecDepth 20000 in
set_option maxHeartbeats 8000000 in
theorem plcov_step (w : World) (p : Qp) (hp : QpIn w p) (hs : Pn.Sh p.x) (da : Option Addr) (dc : Nat) (hd : DfsIn w da p.x.defs) (l : Pm) (hl : PmRd w l) (ho1 : 1 ≤ l.op) (ho5 : l.op ≤ 5) (hmany : (l.kids.length : Int) = manyOf l.op) (d : Nat) (hd24 : d + 1 ≤ 24)
    (ms acc : Nat → Nat) (h0 : acc 0 = 0) (hacc : ∀ i, i < l.kids.length → acc i &&& ms i = 0 ∧ acc (i + 1) = acc i ||| ms i ∧ ms i < 16) (hac : ∀ i, i ≤ l.kids.length → acc i < 16)
    (hk : ∀ i (hi : i < l.kids.length), ∀ W, Below w.heap.size w W → Calls Tryz.prog 23 #[p.v, .slice da p.x.defs.length dc, l.kids[i].v, .int .i64 (d : Int)] W (RetCov W (ms i)))
    (m : Nat) (hm : (l.op = 3 ∨ l.op = 5) ∧ m = acc l.kids.length ∨ (l.op ≠ 3 ∧ l.op ≠ 5) ∧ (l.op ≠ 1 → Pn.UsesOk p.x l.e (acc l.kids.length)) ∧ 0 ≤ l.fr ∧ l.fr < (p.x.T.length : Int) ∧ (acc l.kids.length).testBit l.fr.toNat = false ∧ m = acc l.kids.length ||| 2 ^ l.fr.toNat)
    (W : World) (hB : Below w.heap.size w W) :
    Calls Tryz.prog 23 #[p.v, .slice da p.x.defs.length dc, l.v, .int .i64 ((d : Int) + 1)] W (RetCov W m) := by
  have HP := Lib.hid (hp.below hB)
  have HS := Lib.hid hs
  have HDF := Lib.hid (hd.below hB)
  have HLR := Lib.hid (hl.later hB)
  have HK := Lib.hid (fun i hi V (hV : Below W.heap.size W V) => hk i hi V (hB.then hV))
  have HACC := Lib.hid hacc
  have HAC := Lib.hid hac
  have HM := Lib.hid hm
  have HMA := Lib.hid hmany
  have H0 := Lib.hid h0
  have HUS := Lib.hid (fun (g : Nat) (hg : g < 16) (hu : Pn.UsesOk p.x l.e g) V (hV : Below W.heap.size W V) => pluses_any W p (hp.below hB) hs da dc (hd.below hB) l (hl.later hB) g hg hu V hV)
  have hkl := hl.kidl
  have hd1 : ((d : Int) + 1 == 0) = false := beq_eq_false_iff_ne.2 (by omega)
  have hd2 : (d : Int) + 1 - 1 = (d : Int) := by omega
  have ht4 := hs.t4
  have hobb : Ev.inB l.op := ⟨by omega, by omega⟩
  clear hp hs hd hl hk hacc hac hm hmany h0 hB
  have hmm := @run_makeMap Tryz.prog
  have hz0 := (zero_of_info (P := Tryz.prog) (t := 3) (v := .int .i64 0) (n := 1) (by kernel_rfl)).1
  go_enter Tryz.func23, Tryz.ntmps23
  go_upto_region 1 with (first | (refine wpList_box_qp rfl (.tmp 0) rfl p rfl ?_; intro W1 hb1 hz1 hB1) | (refine wpList_box_pm rfl (.tmp 2) rfl l rfl ?_; intro W2 hb2 hz2 hB2))
  have HB2 := Lib.hid (hB1.then hB2)
  have HQ := Lib.hid (hb1.below hB2)
  have HL := Lib.hid hb2
  obtain ⟨g4, hg4⟩ : ∃ g, W.heap.size = g := ⟨_, rfl⟩
  rw [hg4] at HQ ⊢
  generalize W1.heap.size = g6 at HL ⊢
  clear hb1 hB1 hB2 hz1 hz2 hb2 hg4
  go_cut [10, 11] from 17 to 29 (fun v10 v11 wx => Hid (v10 = .int .i64 (l.kids.length : Int) ∧ v11 = .bool true ∧ Below W2.heap.size W2 wx))
  case first =>
    have b0 : W2.drew.cell? ⟨g6, 0, none⟩ = some (.int .i64 l.op) := (Blk.pm HL.out.drew).1
    have hm0 : IMap (W2.alloc (.map #[] 0)).drew W2.heap.size 0 (fun _ => none) := IMap.made W2
    have hBm : Below W2.heap.size W2 (W2.alloc (.map #[] 0)).drew := (Below.alloc1 W2 (.map #[] 0)).drewR
    have c0 : (W2.alloc (.map #[] 0)).drew.cell? ⟨g6, 0, none⟩ = some (.int .i64 l.op) := cell_later (Below.alloc1 W2 (.map #[] 0)).drewR (Blk.pm HL.out).1
    have hlt6 : g6 < W2.heap.size := HL.out.lt
    have hne6 : g6 ≠ W2.heap.size := by omega
    have hop5 : l.op = 1 ∨ l.op = 2 ∨ l.op = 3 ∨ l.op = 4 ∨ l.op = 5 := by omega
    refine wp_region_plan (.take 5 (.take 6 (.take 8 (.take 9 (.take 10 (.take 11 (.take 12 (.take 13 (.take 14 (.take 15 (.run 0 [5, 6, 8, 9, 10, 11, 12, 13, 14, 15] (.fork (.fork (.run 1 [5, 6, 8, 9, 10, 11, 12, 13, 14, 15] (.fork (.run 2 [5, 6, 8, 9, 10, 11, 12, 13, 14, 15] (.run 3 [5, 6, 8, 9, 10, 11, 12, 13, 14, 15] (.take 4 (.take 7 (.take 16 (.take 17 .fin)))))) (.run 3 [5, 6, 8, 9, 10, 11, 12, 13, 14, 15] (.run 2 [5, 6, 8, 9, 10, 11, 12, 13, 14, 15] (.take 4 (.take 7 (.take 16 (.take 17 .fin)))))))) (.run 2 [5, 6, 8, 9, 10, 11, 12, 13, 14, 15] (.fork (.run 1 [5, 6, 8, 9, 10, 11, 12, 13, 14, 15] (.run 3 [5, 6, 8, 9, 10, 11, 12, 13, 14, 15] (.take 4 (.take 7 (.take 16 (.take 17 .fin)))))) (.run 3 [5, 6, 8, 9, 10, 11, 12, 13, 14, 15] (.run 1 [5, 6, 8, 9, 10, 11, 12, 13, 14, 15] (.take 4 (.take 7 (.take 16 (.take 17 .fin))))))))) (.run 3 [5, 6, 8, 9, 10, 11, 12, 13, 14, 15] (.fork (.run 1 [5, 6, 8, 9, 10, 11, 12, 13, 14, 15] (.run 2 [5, 6, 8, 9, 10, 11, 12, 13, 14, 15] (.take 4 (.take 7 (.take 16 (.take 17 .fin)))))) (.run 2 [5, 6, 8, 9, 10, 11, 12, 13, 14, 15] (.run 1 [5, 6, 8, 9, 10, 11, 12, 13, 14, 15] (.take 4 (.take 7 (.take 16 (.take 17 .fin)))))))))))))))))))) (by kernel_rfl) (by kernel_rfl) (by kernel_rfl) (by kernel_rfl) ?_
    repeat' (first
      | (refine hZ _ _ ?_; clear hZ)
      | (refine hZ _ ?_; clear hZ)
      | (refine hZ ?_; clear hZ)
      | rw [again_nil]
      | (rw [walk_fin]; go_wp2_with fail; go_meet; (case rel => exact ⟨by rw [HMA.out]; congr 1; unfold manyOf; (repeat' split) <;> omega, by first | rfl | (simp; omega), hBm⟩))
      | (rw [walk_fork]; refine ⟨?_, ?_⟩)
      | ((first | rw [walk_take] | rw [walk_run] | rw [again_cons]); intro Z hZ; simp only [sel, List.getElem?_toArray, List.getElem?_cons_zero, List.getElem?_cons_succ]; go_wp2_with (first
          | (refine wpList_imap_insert rfl rfl (.tmp 17) _ _ rfl rfl hm0 (by decide) _ _ rfl rfl ⟨by decide, by decide⟩ ⟨by decide, by decide⟩ ?_; intro Wn hmn hgn; replace hm0 := hmn; replace c0 := cell_kept hgn (Nat.lt_of_lt_of_le hlt6 hBm.size) hne6 c0; replace hBm := below_of_grown hBm hgn (Nat.le_refl _) hBm.size)
          | (at_lookup; refine wpList_imap_lookup rfl (.tmp 18) (.tmp 20) rfl rfl hm0 _ rfl hobb (hz0 _) ?_))))
  case rest =>
    obtain ⟨rfl, rfl, hBm⟩ := hcut.out
    have HBm := Lib.hid (HB2.out.then hBm)
    have HQ2 := Lib.hid (HQ.out.below hBm)
    have HL2 := Lib.hid (HL.out.below hBm)
    obtain ⟨-, -, -, -, -, -, -, -, c8⟩ := Blk.pm HL2.out
    clear hcut hBm HB2 HQ HL hmm
    go_upto_region 6 with fail
    clear c8
    go_loopw [46, 12] (fun jv mv wr => ∃ i : Nat, i ≤ l.kids.length ∧ jv = .int .i64 (i : Int) ∧ mv = .int .u8 ((acc i : Nat) : Int) ∧ Hid (Below wc.heap.size wc wr)) (fun jv _ _ => l.kids.length - (intOf jv).toNat)
    case atStart => exact ⟨0, Nat.zero_le _, by go_num, by rw [H0.out]; rfl, Below.refl _ _⟩
    case round =>
      obtain ⟨i, hi, rfl, rfl, HJ⟩ := hrel
      by_cases hlt : i < l.kids.length
      · have hji : (i : Int) < (l.kids.length : Int) := by omega
        obtain ⟨bk, ok, hka, -, -⟩ := HLR.out.kidr.at_ hlt
        have HIW : Hid (ERow ePm wr (some ⟨bk, ok, none⟩) l.kids) := by show ERow _ _ _ _; rw [← hka]; exact HLR.out.kidr.below (HBm.out.then HJ.out)
        have hix : (Instr.indexAt 42 (.slice l.ka l.kids.length l.kc) (.int .i64 (i : Int))).run Tryz.prog wr = .ok (.pointer (some ⟨bk, ok + i * 9, none⟩)) wr := by rw [hka]; go_simp
        obtain ⟨k, hk⟩ : ∃ k, l.kids[i] = k := ⟨_, rfl⟩
        have HKE := Lib.hid hk
        have HKC := Lib.hid (HK.out i hlt)
        rw [hk] at HKC
        clear hka hk
        go_upto_region 8 with (first | (refine wpList_load_pm_at rfl (.tmp 48) rfl HIW.out hlt k HKE.out rfl ?_) | (refine wpList_alloc_pm rfl rfl ?_; intro W6 hb6 hz6 hB6) | (refine wpList_store_pm rfl rfl (.tmp 14) (.tmp 49) rfl wr.heap.size rfl k rfl hb6 ?_; intro W7 hb7 hg7))
        have HB7 := Lib.hid (below_of_grown (HJ.out.then hB6) hg7 HJ.out.size (Nat.le_trans HJ.out.size hB6.size))
        clear hix hb6 hz6 hB6 hg7 HIW
        generalize wr.heap.size = g14 at hb7 ⊢
        have hq7 := HQ2.out.below HB7.out
        go_wp2_with (first | (refine wpList_load_qp0 rfl (.tmp 4) rfl g4 rfl hq7 ?_) | (refine wpList_load_pm rfl (.tmp 14) rfl g14 rfl hb7 ?_))
        refine (HKC.out W7 (HBm.out.then HB7.out)).mono ?_
        rintro e W8 ⟨rfl, hB8⟩
        have HB8 := Lib.hid (HB7.out.then hB8)
        have hai := HAC.out i hi
        obtain ⟨e1, e2, e3⟩ := HACC.out i hlt
        have hand : bits BinOp.and IntKind.u8 ((acc i : Nat) : Int) ((ms i : Nat) : Int) = 0 := by rw [and8 _ hai _ e3, e1]; rfl
        have hor : bits BinOp.or IntKind.u8 ((acc i : Nat) : Int) ((ms i : Nat) : Int) = ((acc (i + 1) : Nat) : Int) := by rw [or8 _ hai _ e3, e2]
        clear hB8 hq7 hb7 e1 e2 e3 hai
        go_wp2_with fail
        clear hand hor
        go_roundw
        case rel => exact ⟨i + 1, by omega, by go_num, rfl, HB8.out⟩
        case measure => simp [intOf]; omega
      · have hji : ¬ (i : Int) < (l.kids.length : Int) := by omega
        obtain rfl : i = l.kids.length := by omega
        have HL3 := Lib.hid (HL2.out.below HJ.out)
        have HQ3 := Lib.hid (HQ2.out.below HJ.out)
        have HB3 := Lib.hid (HBm.out.then HJ.out)
        have HAN := Lib.hid (HAC.out l.kids.length (Nat.le_refl _))
        clear HJ HL2 HQ2 HBm HK HACC HAC
        obtain ⟨mn, hmn⟩ : ∃ mn, acc l.kids.length = mn := ⟨_, rfl⟩
        rw [hmn] at HM HAN ⊢
        clear hmn
        obtain ⟨p0, p1, -⟩ := Blk.pm HL3.out
        rcases HM.out with ⟨ho, hme⟩ | ⟨ho, hu, hf0, hf1, hbit, hme⟩
        · have HME := Lib.hid hme
          rcases ho with ho | ho
          · have k3 : (l.op == 3) = true := by simp [ho]
            clear ho hme HM
            go_wp2_with fail
            go_ret2
            exact ⟨by rw [HME.out]; rfl, HB3.out⟩
          · have k3 : (l.op == 3) = false := by simp [ho]
            have k5 : (l.op == 5) = true := by simp [ho]
            clear ho hme HM
            go_wp2_with fail
            go_ret2
            exact ⟨by rw [HME.out]; rfl, HB3.out⟩
        · have k3 : (l.op == 3) = false := by simp [ho.1]
          have k5 : (l.op == 5) = false := by simp [ho.2]
          obtain ⟨f, hf⟩ : ∃ f : Nat, l.fr = (f : Int) := ⟨l.fr.toNat, by omega⟩
          have hbit2 : mn.testBit f = false := by rw [← hbit, hf, Int.toNat_natCast]
          have HME : Hid (m = mn ||| 2 ^ f) := by show _ = _; rw [hme, hf, Int.toNat_natCast]
          have HU := Lib.hid hu
          have HF := Lib.hid hf
          have hf4 : f < 4 := by omega
          have hft : (f : Int) < (p.x.T.length : Int) := by omega
          rw [hf] at p1
          obtain ⟨c0, -⟩ := Blk.qp HQ3.out
          clear ho hu hf0 hf1 hbit hme hf HM
          go_wp2_with fail
          refine (mhas_any wr mn f HAN.out (by omega)).mono ?_
          rw [hbit2]
          rintro e W9 ⟨rfl, rfl⟩
          clear hbit2
          by_cases h1 : l.op = 1
          · have k1 : (l.op != 1) = false := by simp [h1]
            clear h1
            go_wp2_with fail
            go_ret2
            refine ⟨?_, HB3.out⟩
            rw [HME.out, ← shl_or mn HAN.out f hf4]; rfl
          · have k1 : (l.op != 1) = true := by simp [h1]
            have HUC := Lib.hid (HUS.out mn HAN.out (HU.out h1) wr HB3.out)
            clear h1 p0 p1 c0
            obtain ⟨p0, p1, p2, p3, p4, p5, p6, p7, p8⟩ := Blk.pm HL3.out
            obtain ⟨q0, q1, q2, q3, q4, q5, q6, q7, q8⟩ := Blk.qp9 (Blk.qp90 HQ3.out)
            go_wp2_with fail
            refine (show Calls _ _ #[p.v, _, l.v, _] _ _ from HUC.out).mono ?_
            rintro e W10 ⟨rfl, hB10⟩
            obtain ⟨-, r1, -⟩ := Blk.pm (HL3.out.below hB10)
            have HB10 := Lib.hid (HB3.out.then hB10)
            clear hB10 p0 p1 p2 p3 p4 p5 p6 p7 p8 q0 q1 q2 q3 q4 q5 q6 q7 q8
            rw [HF.out] at r1
            go_wp2_with fail
            go_ret2
            refine ⟨?_, HB10.out⟩
            rw [HME.out, ← shl_or mn HAN.out f hf4]; rfl
theorem kids_nil {l : Pm} {P : Pl} (e : l.e = P) (h : P.kids = []) : l.kids = [] := by
  rw [← e, Pm.e_eq] at h
  exact List.map_eq_nil_iff.1 h
theorem kids_one {l : Pm} {P k : Pl} (e : l.e = P) (h : P.kids = [k]) : ∃ a, l.kids = [a] ∧ a.e = k := by
  rw [← e, Pm.e_eq] at h
  have h : l.kids.map Pm.e = [k] := h
  cases hl : l.kids with
  | nil => rw [hl] at h; cases h
  | cons a r =>
    rw [hl] at h
    obtain ⟨h1, h2⟩ := List.cons.inj h
    exact ⟨a, by rw [List.map_eq_nil_iff.1 h2], h1⟩
theorem kids_two {l : Pm} {P k q : Pl} (e : l.e = P) (h : P.kids = [k, q]) : ∃ a b, l.kids = [a, b] ∧ a.e = k ∧ b.e = q := by
  rw [← e, Pm.e_eq] at h
  have h : l.kids.map Pm.e = [k, q] := h
  cases hl : l.kids with
  | nil => rw [hl] at h; cases h
  | cons a r =>
    rw [hl] at h
    obtain ⟨h1, h2⟩ := List.cons.inj h
    cases r with
    | nil => cases h2
    | cons b r =>
      obtain ⟨h3, h4⟩ := List.cons.inj h2
      exact ⟨a, b, by rw [List.map_eq_nil_iff.1 h4], h1, h3⟩
theorem plcov_any (w : World) (p : Qp) (hp : QpIn w p) (hs : Pn.Sh p.x) (da : Option Addr) (dc : Nat) (hd : DfsIn w da p.x.defs) {d : Nat} {P : Pl} {m : Nat} (h : Pn.Good p.x d P m) :
    d ≤ 24 → ∀ l : Pm, PmRd w l → l.e = P → ∀ W, Below w.heap.size w W → Calls Tryz.prog 23 #[p.v, .slice da p.x.defs.length dc, l.v, .int .i64 (d : Int)] W (RetCov W m) := by
  induction h with
  | @seq d P h1 h2 h3 h4 =>
    intro hd24 l hl e W hB
    have ho : l.op = 1 := by rw [← l.e_op, e]; exact h1
    have hk := kids_nil e h2
    have hfr : l.fr = P.fr := by rw [← l.e_fr, e]
    refine plcov_step w p hp hs da dc hd l hl (by omega) (by omega) (by rw [hk, ho]; rfl) d hd24 (fun _ => 0) (fun _ => 0) rfl (fun i hi => by rw [hk] at hi; cases hi) (fun _ _ => by decide) (fun i hi => by rw [hk] at hi; cases hi) _
      (.inr ⟨by omega, fun h => absurd ho h, by rw [hfr]; exact h3, by rw [hfr]; exact h4, Nat.zero_testBit _, ?_⟩) W hB
    rw [hfr, Nat.zero_or]
  | @range d P h1 h2 hu =>
    intro hd24 l hl e W hB
    have ho : l.op = 2 := by rw [← l.e_op, e]; exact h1
    have hk := kids_nil e h2
    have hfr : l.fr = P.fr := by rw [← l.e_fr, e]
    refine plcov_step w p hp hs da dc hd l hl (by omega) (by omega) (by rw [hk, ho]; rfl) d hd24 (fun _ => 0) (fun _ => 0) rfl (fun i hi => by rw [hk] at hi; cases hi) (fun _ _ => by decide) (fun i hi => by rw [hk] at hi; cases hi) _
      (.inr ⟨by omega, fun _ => by rw [e]; exact hu, by rw [hfr]; exact hu.f0, by rw [hfr]; exact hu.f1, Nat.zero_testBit _, ?_⟩) W hB
    rw [hfr, Nat.zero_or]
  | @loop d P pl pr ml mr h1 h2 h3 h4 h5 i3 i4 =>
    intro hd24 l hl e W hB
    have ho : l.op = 3 := by rw [← l.e_op, e]; exact h1
    obtain ⟨a, b, hk, ea, eb⟩ := kids_two e h2
    have hml := h3.lt hs.t4
    have hmr := h4.lt hs.t4
    refine plcov_step w p hp hs da dc hd l hl (by omega) (by omega) (by rw [hk, ho]; rfl) d hd24 (fun i => if i = 0 then ml else mr) (fun i => if i = 0 then 0 else if i = 1 then ml else ml ||| mr) rfl ?_ ?_ ?_ _
      (.inl ⟨.inl ho, by rw [hk]; rfl⟩) W hB
    · intro i hi
      rw [hk] at hi
      have hi : i < 2 := hi
      rcases (show i = 0 ∨ i = 1 by omega) with rfl | rfl
      · exact ⟨by simp, by simp, hml⟩
      · exact ⟨by simpa using h5, rfl, hmr⟩
    · intro i _
      split
      · decide
      · split
        · exact hml
        · exact or16 _ hml _ hmr
    · intro i hi V hV
      have hi2 : i < 2 := by rw [hk] at hi; exact hi
      rcases (show i = 0 ∨ i = 1 by omega) with rfl | rfl
      · have hg : l.kids[0] = a := by simp [hk]
        rw [hg]
        exact i3 (by omega) a (hl.kid a (by rw [hk]; simp)) ea V hV
      · have hg : l.kids[1] = b := by simp [hk]
        rw [hg]
        exact i4 (by omega) b (hl.kid b (by rw [hk]; simp)) eb V hV
  | @lookup d P pl ml h1 h2 h3 h4 hu i3 =>
    intro hd24 l hl e W hB
    have ho : l.op = 4 := by rw [← l.e_op, e]; exact h1
    obtain ⟨a, hk, ea⟩ := kids_one e h2
    have hfr : l.fr = P.fr := by rw [← l.e_fr, e]
    have hml := h3.lt hs.t4
    refine plcov_step w p hp hs da dc hd l hl (by omega) (by omega) (by rw [hk, ho]; rfl) d hd24 (fun _ => ml) (fun i => if i = 0 then 0 else ml) rfl ?_ ?_ ?_ _
      (.inr ⟨by omega, fun _ => by rw [e, hk]; exact hu, by rw [hfr]; exact hu.f0, by rw [hfr]; exact hu.f1, by rw [hfr, hk]; exact h4, by rw [hfr, hk]; rfl⟩) W hB
    · intro i hi
      rw [hk] at hi
      have hi : i < 1 := hi
      obtain rfl : i = 0 := by omega
      exact ⟨by simp, by simp, hml⟩
    · intro i _
      split
      · decide
      · exact hml
    · intro i hi V hV
      have hi2 : i < 1 := by rw [hk] at hi; exact hi
      obtain rfl : i = 0 := by omega
      have hg : l.kids[0] = a := by simp [hk]
      rw [hg]
      exact i3 (by omega) a (hl.kid a (by rw [hk]; simp)) ea V hV
  | @sort d P pk m h1 h2 h3 i3 =>
    intro hd24 l hl e W hB
    have ho : l.op = 5 := by rw [← l.e_op, e]; exact h1
    obtain ⟨a, hk, ea⟩ := kids_one e h2
    have hml := h3.lt hs.t4
    refine plcov_step w p hp hs da dc hd l hl (by omega) (by omega) (by rw [hk, ho]; rfl) d hd24 (fun _ => m) (fun i => if i = 0 then 0 else m) rfl ?_ ?_ ?_ _
      (.inl ⟨.inr ho, by rw [hk]; rfl⟩) W hB
    · intro i hi
      rw [hk] at hi
      have hi : i < 1 := hi
      obtain rfl : i = 0 := by omega
      exact ⟨by simp, by simp, hml⟩
    · intro i _
      split
      · decide
      · exact hml
    · intro i hi V hV
      have hi2 : i < 1 := by rw [hk] at hi; exact hi
      obtain rfl : i = 0 := by omega
      have hg : l.kids[0] = a := by simp [hk]
      rw [hg]
      exact i3 (by omega) a (hl.kid a (by rw [hk]; simp)) ea V hV
end Go.Proofs.YtjdffhonljhpcaaGreat
end

section
/-
  The contract of plan's Right, at a right plan.
-/
namespace Go.Proofs.YtjdffhonljhpcaaGreat
set_option linter.unusedSimpArgs false
set_option linter.unusedVariables false
open Go.RowKit

theorem good_gv {x : Pn.PX} {d : Nat} {P : Pl} {m : Nat} (h : Pn.Good x d P m) : ∀ l : Pm, l.e = P → GvOk x l := by
  induction h with
  | seq h1 h2 h3 h4 => intro l e; exact .seq (by rw [← l.e_op, e]; exact h1)
  | @range d P h1 h2 hu =>
    intro l e
    have ho : l.op = 2 := by rw [← l.e_op, e]; exact h1
    have hf : l.fr = P.fr := by rw [← l.e_fr, e]
    have hi : l.ix = P.ix := by rw [← l.e_ix, e]
    have hq : l.eq = P.eq := by rw [← l.e_eql, e]
    refine .range (by omega) (by omega) (by omega) (by omega) ?_ ?_ ?_ ?_ ?_
    · rw [hi]; exact hu.i0
    · rw [hi]; exact hu.i1
    · rw [hf]; exact hu.f0
    · rw [hf]; exact hu.f1
    · rw [hi, hq]; exact hu.len
  | loop h1 h2 h3 h4 h5 i3 i4 =>
    intro l e
    obtain ⟨a, b, hk, ea, eb⟩ := kids_two e h2
    exact .kid (.inl (by rw [← l.e_op, e]; exact h1)) hk (i3 a ea)
  | lookup h1 h2 h3 h4 hu i3 =>
    intro l e
    obtain ⟨a, hk, ea⟩ := kids_one e h2
    exact .kid (.inr (by rw [← l.e_op, e]; exact h1)) hk (i3 a ea)
  | sort h1 h2 h3 i3 => intro l e; exact .sort (by rw [← l.e_op, e]; exact h1)
set_option maxRecDepth 20000 in
set_option maxHeartbeats 8000000 in
theorem plright_any (w : World) (p : Qp) (hp : QpIn w p) (hmay : Pn.may p.x = true) (da : Option Addr) (dc : Nat) (hd : DfsIn w da p.x.defs) (l : Pm) (hl : PmRd w l) (hg : Pn.Good p.x 24 l.e (2 ^ p.x.T.length - 1)) (hgv : Pn.orders p.x = true → Pn.gives p.x l.e = true) :
    Calls Tryz.prog 12 #[p.v, .slice da p.x.defs.length dc, l.v] w (RetBo w true) := by
  have hs := Pn.sh_of_may hmay
  have HMAY := Lib.hid hmay
  have HP := Lib.hid hp
  have HS := Lib.hid hs
  have HCV := Lib.hid (plcov_any w p hp hs da dc hd hg (Nat.le_refl _) l hl rfl)
  have HGV := Lib.hid (plgivesr_any w p hp hs da dc hd l hl (good_gv hg l rfl))
  have HG := Lib.hid hgv
  have hol := hp.ol
  have hall := all8 hs.t1 hs.t4
  have ht4 := hs.t4
  clear hp hd hl hg hgv hs hmay
  go_enter Tryz.func12, Tryz.ntmps12
  go_upto_region 1 with (first | (refine wpList_box_qp rfl (.tmp 0) rfl p rfl ?_; intro W1 hb1 hz1 hB1) | (refine wpList_box_pm rfl (.tmp 2) rfl l rfl ?_; intro W2 hb2 hz2 hB2))
  have HB2 := Lib.hid (hB1.then hB2)
  have hq2 := hb1.below hB2
  have hl2 := hb2
  obtain ⟨g3, hg3⟩ : ∃ g, w.heap.size = g := ⟨_, rfl⟩
  rw [hg3] at hq2 ⊢
  generalize W1.heap.size = g5 at hl2 ⊢
  clear hb1 hB1 hB2 hz1 hz2 hb2 hg3
  go_wp2_with (refine wpList_load_qp0 rfl (.tmp 3) rfl g3 rfl hq2 ?_)
  refine (plmay_any W2 p (HP.out.below HB2.out)).mono ?_
  rw [HMAY.out]
  rintro e W3 ⟨rfl, hB3⟩
  have hq3 := hq2.below hB3
  have hl3 := hl2.below hB3
  have HB3 := Lib.hid (HB2.out.then hB3)
  clear hB3 hq2 hl2
  go_wp2_with (first | (refine wpList_load_qp0 rfl (.tmp 3) rfl g3 rfl hq3 ?_) | (refine wpList_load_pm rfl (.tmp 5) rfl g5 rfl hl3 ?_))
  refine (show Calls _ _ _ _ _ from HCV.out W3 HB3.out).mono ?_
  rintro e W4 ⟨rfl, hB4⟩
  have hq4 := hq3.below hB4
  have hl4 := hl3.below hB4
  have HB4 := Lib.hid (HB3.out.then hB4)
  clear hB4 hq3 hl3
  obtain ⟨c0, -⟩ := Blk.qp hq4
  go_wp2_with (refine wpList_load_qp0 rfl (.tmp 3) rfl g3 rfl hq4 ?_)
  refine (plorders_any W4 p hol).mono ?_
  rintro e W5 ⟨rfl, hB5⟩
  have hq5 := hq4.below hB5
  have hl5 := hl4.below hB5
  have HB5 := Lib.hid (HB4.out.then hB5)
  obtain ⟨od, hod⟩ : ∃ od, Pn.orders p.x = od := ⟨_, rfl⟩
  rw [hod] at HG ⊢
  clear hB5 hq4 hl4 c0 hod
  cases od with
  | false =>
    go_wp2_with fail
    go_ret
    exact ⟨rfl, HB5.out⟩
  | true =>
    obtain ⟨p0, p1, p2, p3, p4, p5, p6, p7, p8⟩ := Blk.pm hl5
    obtain ⟨q0, q1, q2, q3, q4, q5, q6, q7, q8⟩ := Blk.qp9 (Blk.qp90 hq5)
    go_wp2_with fail
    refine (show Calls _ _ #[p.v, _, l.v] _ _ from HGV.out W5 HB5.out).mono ?_
    rw [HG.out trivial]
    rintro e W6 ⟨rfl, hB6⟩
    have HB6 := Lib.hid (HB5.out.then hB6)
    clear hB6 p0 p1 p2 p3 p4 p5 p6 p7 p8 q0 q1 q2 q3 q4 q5 q6 q7 q8
    go_wp2_with fail
    go_ret
    exact ⟨rfl, HB6.out⟩
end Go.Proofs.YtjdffhonljhpcaaGreat
end

section
/-
  Choose as the planner's laws call it: with small parts, and some indexes.
-/
namespace Go.Proofs.YtjdffhonljhpcaaGreat
set_option linter.unusedSimpArgs false
set_option linter.unusedVariables false
open Go.RowKit

namespace Pn
/-- What is known, with what the tables tell. -/
def xOf (x : PX) (S : List Stt) : PX := { x with rows := (fillT x 0 S ([], [])).1, cols := (fillT x 0 S ([], [])).2 }
theorem b_eq {x y : PX} (hB : y.B = x.B) (f : Nat) : b y f = b x f := by unfold b; rw [hB]
theorem endN_eq {x y : PX} (hB : y.B = x.B) (hW : y.W = x.W) (f : Nat) : endN y f = endN x f := by unfold endN; rw [b_eq hB, hB, hW]
theorem fillC_eq {x y : PX} (hB : y.B = x.B) (t : Stt) (f : Nat) : ∀ (k : Nat) (at_ : Int) (o : List Int × List Cs), fillC y t f k at_ o = fillC x t f k at_ o
  | 0, _, _ => rfl
  | k + 1, at_, o => by
    show fillC y t f k (at_ + 1) _ = fillC x t f k (at_ + 1) _
    rw [fillC_eq hB t f k, b_eq hB]
theorem fillT_eq {x y : PX} (hB : y.B = x.B) (hW : y.W = x.W) : ∀ (S : List Stt) (f : Nat) (o : List Int × List Cs), fillT y f S o = fillT x f S o
  | [], _, _ => rfl
  | t :: S, f, o => by
    show fillT y (f + 1) S (fillC y t f (endN y f - b y f).toNat (b y f) o) = fillT x (f + 1) S (fillC x t f (endN x f - b x f).toNat (b x f) o)
    rw [fillT_eq hB hW S, fillC_eq hB, b_eq hB, endN_eq hB hW]
theorem mayF_wd (x : PX) (D : List Df) : ∀ k i, mayF (wd x D) i k = mayF x i k
  | 0, _ => rfl
  | k + 1, i => by
    show (decide (b x i < endN x i) && mayF (wd x D) (i + 1) k) = _
    rw [mayF_wd x D k]
    rfl
theorem may_wd (x : PX) (D : List Df) : may (wd x D) = may x := by
  unfold may
  rw [show (wd x D).T = x.T from rfl, mayF_wd]
  rfl
theorem chOk_sh {x : PX} {n : Nat} (h : chOk x n = true) : Sh x := by
  unfold chOk at h
  simp only [Bool.and_eq_true] at h
  exact sh_of_may h.1.1.1.1
end Pn
/-- The query with all that is known, and some indexes. -/
def Qp.full (p : Qp) (S : List Stt) (E : List Df) : Qp := { p with x := Pn.wd (Pn.xOf p.x S) E }
theorem qp_full {w : World} {p : Qp} (hp : QpRaw w p) {S : List Stt} {D : List Df} (hs : SmallP p.x S D) (E : List Df) : QpIn w (p.full S E) :=
  ⟨hp.t, hp.tin, by have := hs.t; show p.x.T.length ≤ 1000000; omega, hp.b, hp.bin, by have := hs.b; show p.x.B.length ≤ 1000000; omega, hp.win, hp.wn, hp.nin, by have := hs.wh; show p.x.wh.length ≤ 1000000; omega, hp.o, hp.oin, by have := hs.ord; show p.x.ord.length ≤ 1000000; omega⟩
theorem stts_of {w : World} {sa : Option Addr} {S : List Stt} (hS : ERow eStt w sa S) (hSr : ∀ t ∈ S, SttRaw w t) {x : Pn.PX} {D : List Df} (hs : SmallP x S D) : SttsIn w sa S :=
  ⟨hS, fun t ht => ⟨(hSr t ht).1, fun c hc => ((hSr t ht).2.1 c hc).1, by have := (hs.sc t ht).1; omega, fun c hc => by have := (hs.sc t ht).2 c hc; omega⟩, by have := hs.s; omega⟩
theorem dfs_of {w : World} {A : Option Addr} {D E : List Df} (hE : ERow eDf w A E) (hr : ∀ d ∈ D, DfRaw w d) (hsub : ∀ d ∈ E, d ∈ D) {x : Pn.PX} {S : List Stt} (hs : SmallP x S D) (hl : E.length ≤ 1000) : DfsIn w A E :=
  ⟨hE, fun d hd => (hr d (hsub d hd)).1, fun d hd => by have := hs.dc d (hsub d hd); omega, fun d hd => (hr d (hsub d hd)).2.1, fun d hd => (hr d (hsub d hd)).2.2, hl⟩
/-- What a small query is answered. -/
theorem plcall_any (w : World) (p : Qp) (hp : QpRaw w p) (sa : Option Addr) (S : List Stt) (sc : Nat) (hS : ERow eStt w sa S) (hSr : ∀ t ∈ S, SttRaw w t) (D : List Df) (hDr : ∀ d ∈ D, DfRaw w d) (hs : SmallP p.x S D)
    (W : World) (hB : Below w.heap.size w W) (A : Option Addr) (E : List Df) (c n : Nat) (hE : ERow eDf W A E) (hsub : ∀ d ∈ E, d ∈ D) (hn : E.length = n) (hl : n ≤ 64) :
    Calls Tryz.prog 11 #[p.v, .slice sa S.length sc, .slice A n c] W (RetCh W (p.full S E) S.length) := by
  subst hn
  exact plchoose_any W (p.full S E) (qp_full (hp.below hB) hs E) (by have := hs.wh; show p.x.wh.length ≤ 1000; omega) sa S sc (stts_of (hS.below hB) (fun t ht => (hSr t ht).below hB) hs) A c
    (dfs_of hE (fun d hd => (hDr d hd).below hB) hsub hs (by show E.length ≤ 1000; omega)) ((Pn.fillT_eq (x := p.x) (y := (p.full S E).x) rfl rfl S 0 ([], [])).trans rfl)
end Go.Proofs.YtjdffhonljhpcaaGreat
end

section
/-
  What gives an order gives it with an index more; plain.
-/
namespace Go.Proofs.YtjdffhonljhpcaaGreat
set_option linter.unusedSimpArgs false
set_option linter.unusedVariables false
namespace Pn
theorem defAt_more {x : PX} {D : List Df} {e : Df} {p : Pl} (h0 : 0 ≤ p.ix) (h1 : p.ix < (D.length : Int)) : defAt (wd x (D ++ [e])) p = defAt (wd x D) p := by
  show (D ++ [e]).getD p.ix.toNat _ = D.getD p.ix.toNat _
  have hi : p.ix.toNat < D.length := by omega
  simp [List.getD, List.getElem?_append_left hi]
theorem gives_more {x : PX} {D : List Df} {e : Df} {d : Nat} {p : Pl} {m : Nat} (h : Good (wd x D) d p m) : gives (wd x (D ++ [e])) p = gives (wd x D) p := by
  induction h with
  | seq h1 h2 h3 h4 => rw [gives_seq h1, gives_seq h1]; rfl
  | @range d p h1 h2 h3 =>
    rw [gives_range (by omega) (by omega) (by omega) (by omega), gives_range (by omega) (by omega) (by omega) (by omega), givF_wd, givF_wd]
    show givF x p.fr (defAt (wd x (D ++ [e])) p).cols _ _ _ = givF x p.fr (defAt (wd x D) p).cols _ _ _
    rw [defAt_more (D := D) h3.i0 h3.i1]
    rfl
  | loop h1 h2 h3 h4 h5 i3 i4 => rw [gives_kid (.inl h1) h2, gives_kid (.inl h1) h2]; exact i3
  | lookup h1 h2 h3 h4 h5 i3 => rw [gives_kid (.inr h1) h2, gives_kid (.inr h1) h2]; exact i3
  | sort h1 h2 h3 i3 => rw [gives_sort h1, gives_sort h1]
theorem chOk_good {x : PX} {n : Nat} (h : chOk x n = true) : may x = true ∧ Good x 24 (choose x) (2 ^ x.T.length - 1) ∧ (orders x = true → gives x (choose x) = true) := by
  have hs := chOk_sh h
  unfold chOk at h
  simp only [Bool.and_eq_true] at h
  have hg := choose_good (x := x) hs.t1 (by have := hs.t4; omega) hs.bl
  refine ⟨h.1.1.1.1, hg.1, fun ho => hg.2 ?_⟩
  have := h.2
  rw [ho] at this
  simpa using this
end Pn
end Go.Proofs.YtjdffhonljhpcaaGreat
end

