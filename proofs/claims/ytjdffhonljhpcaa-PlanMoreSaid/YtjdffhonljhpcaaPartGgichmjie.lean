/-
  Texts of a proof, one behind the other (each with its own head).
-/
import Derived.Test.YtjdffhonljhpcaaPartFnebipmfp
section
/-
  The contract of plan.Choose.
-/
namespace Go.Proofs.Ytjdffhonljhpcaa
set_option linter.unusedSimpArgs false
set_option linter.unusedVariables false
open Go.RowKit

namespace Pn
/-- Is there a plan? -/
def chOk (x : PX) (n : Nat) : Bool := may x && n == x.T.length && decide (x.defs.length ≤ 64) && x.wh.all (fun y => !(asks x y).2) && (!orders x || (sorts x).2)
/-- Where the columns of table i begin, or all end. -/
def bAt (x : PX) (i : Nat) : Int := if i < x.T.length then b x i else x.W
theorem b0_of_may {x : PX} (h : may x = true) : b x 0 = 0 := by
  unfold may may0 at h
  simp only [Bool.and_eq_true, decide_eq_true_eq] at h
  exact h.1.1.2
theorem bAt_succ {x : PX} (hs : Sh x) {i : Nat} (hi : i < x.T.length) : bAt x (i + 1) = endN x i := by
  unfold bAt endN
  rw [hs.bl]
end Pn
theorem all8 {n : Nat} (h1 : 1 ≤ n) (h4 : n ≤ 4) : ((2 : Int) ^ n % 256 - 1) % 256 = ((2 ^ n - 1 : Nat) : Int) := by
  have h : n = 1 ∨ n = 2 ∨ n = 3 ∨ n = 4 := by omega
  rcases h with rfl | rfl | rfl | rfl <;> rfl
/-- What Choose answers. -/
def RetCh (w : World) (p : Qp) (n : Nat) (e : Ending) (w' : World) : Prop :=
  ∃ (m : Pm) (er : Int), e = .returned (.tuple #[m.v, .int .i64 er]) ∧ Below w.heap.size w w' ∧ (PlNz m.e → PmRd w' m) ∧ ((Pn.chOk p.x n = true ∧ er = 0 ∧ m.e = Pn.choose p.x) ∨ (Pn.chOk p.x n = false ∧ er = 1 ∧ m = Pm.nil))
theorem load_pm {w : World} {g : Nat} {t : TypeId} {p : Pm} (h : Blk w g t p.cells) : (loadVar 56 ⟨g, 0, none⟩).run Try.prog w = .ok p.v w := by
  obtain ⟨h0, h1, h2, h3, h4, h5, h6, h7, h8⟩ := Blk.pm h
  unfold Pm.v Pm.cells
  go_simp
theorem Blk.wchs {w : World} {g : Nat} {t : TypeId} {p : Qp} {a b c d : Value} (h : Blk w g t (p.cells ++ (a :: [b, c, d]))) : w.cell? ⟨g, 9, none⟩ = some a ∧ w.cell? ⟨g, 10, none⟩ = some b ∧ w.cell? ⟨g, 11, none⟩ = some c ∧ w.cell? ⟨g, 12, none⟩ = some d ∧ w.frozen? ⟨g, 10, none⟩ = false ∧ w.frozen? ⟨g, 11, none⟩ = false ∧ w.frozen? ⟨g, 12, none⟩ = false :=
  ⟨h.cell 9, h.cell 10, h.cell 11, h.cell 12, h.free 10, h.free 11, h.free 12⟩
set_option maxRecDepth 20000 in
set_option maxHeartbeats 8000000 in
theorem plchoose_any (w : World) (p : Qp) (hp : QpIn w p) (hwl : p.x.wh.length ≤ 1000) (sa : Option Addr) (S : List Stt) (sc : Nat) (hS : SttsIn w sa S) (da : Option Addr) (dc : Nat) (hd : DfsIn w da p.x.defs) (hrc : Pn.fillT p.x 0 S ([], []) = (p.x.rows, p.x.cols)) :
    Calls Try.prog 19 #[p.v, .slice sa S.length sc, .slice da p.x.defs.length dc] w (RetCh w p S.length) := by
  have HP := Lib.hid hp
  have HS := Lib.hid hS
  have HD := Lib.hid hd
  have HRC := Lib.hid hrc
  have htl := hp.tl
  have hSl := hS.len
  have hdl := hd.len
  clear hp hS hd hrc
  go_enter Try.func19, Try.ntmps19
  go_upto_region 1 with (first | (refine wpList_box_qp rfl (.tmp 0) rfl p rfl ?_; intro W1 hb1 hz1 hB1) | (refine wpList_alloc_pm rfl rfl ?_; intro W2 hb2 hz2 hB2))
  obtain ⟨g3, hg3⟩ : ∃ g, w.heap.size = g := ⟨_, rfl⟩
  obtain ⟨g6, hg6⟩ : ∃ g, W1.heap.size = g := ⟨_, rfl⟩
  have HQ2 : Hid (Blk W2 g3 50 p.cells) := by rw [← hg3]; exact hb1.below hB2
  have HO2 : Hid (Blk W2 g6 56 Pm.nil.cells) := by rw [← hg6]; exact hb2
  have HB2 : Hid (Below w.heap.size w W2) := hB1.then hB2
  have HN : Hid (w.heap.size ≤ g3 ∧ g3 < g6) := by show _ ∧ _; omega
  rw [hg3, hg6]
  clear hb1 hz1 hB1 hb2 hz2 hB2 hg3 hg6
  obtain ⟨c0, -⟩ := Blk.qp HQ2.out
  have hz9 := pm_zero
  go_wp2_with (refine wpList_load_qp0 rfl (.tmp 3) rfl g3 rfl HQ2.out ?_)
  refine (plmay_any W2 p (HP.out.below HB2.out)).mono ?_
  rintro e W3 ⟨rfl, hB3⟩
  have HQ3 := Lib.hid (HQ2.out.below hB3)
  have HO3 := Lib.hid (HO2.out.below hB3)
  have HB3 := Lib.hid (HB2.out.then hB3)
  clear hB3 c0 HQ2 HO2 HB2
  obtain ⟨c0, -⟩ := Blk.qp HQ3.out
  obtain ⟨my, hmy⟩ : ∃ b, Pn.may p.x = b := ⟨_, rfl⟩
  have HMY := Lib.hid hmy
  rw [hmy]
  clear hmy
  cases my with
  | false =>
    have HER : Hid (Pn.chOk p.x S.length = false) := by show _ = _; unfold Pn.chOk; rw [HMY.out]; rfl
    go_wp2_with (refine wpList_store_pm rfl rfl (.tmp 6) (.tmp 39) rfl g6 rfl Pm.nil rfl HO3.out ?_; intro WE hbe hge)
    refine ret_mem2 rfl rfl rfl rfl (load_pm hbe) ⟨Pm.nil, 1, rfl, below_of_grown HB3.out hge (by have := HN.out; omega) HB3.out.size, fun _ => PmRd.nil, .inr ⟨HER.out, rfl, rfl⟩⟩
  | true =>
    by_cases hST : S.length = p.x.T.length
    · have hSi : (S.length : Int) = (p.x.T.length : Int) := by omega
      by_cases h64 : p.x.defs.length ≤ 64
      · have h6i : ¬ 64 < (p.x.defs.length : Int) := by omega
        go_upto_region 3 with fail
        clear c0
        obtain ⟨c0, c1, c2, c3, c4, c5, c6, c7, c8⟩ := Blk.qp9 (Blk.qp90 HQ3.out)
        go_upto_region 4 with fail
        clear c0 c1 c2 c3 c4 c5 c6 c7 c8
        obtain ⟨g8, hg8⟩ : ∃ g, W3.heap.size = g := ⟨_, rfl⟩
        generalize hW4 : World.alloc W3 (.cells _ _) = W4
        obtain ⟨ba4, hz4, hB4⟩ := fresh1 hW4
        clear hW4
        rw [hg8] at ba4 ⊢
        have HC4 : Hid (ChSt w W4 p da p.x.defs.length dc g3 g6 g8 none [] 0 none [] 0 none [] 0) :=
          ⟨HQ3.out.below hB4, HO3.out.below hB4, ba4, EOwn.nil _ _, EOwn.nil _ _, EOwn.nil _ _, HB3.out.then hB4, HN.out.1, by have := HN.out; omega, by rw [← hg8]; exact HB3.out.size, by have := HQ3.out.lt; have := HN.out; omega, by have := HO3.out.lt; omega⟩
        clear ba4 hz4 hB4 hg8 HQ3 HO3 HB3
        have HSH := Lib.hid (Pn.sh_of_may HMY.out)
        have ht4 := HSH.out.t4
        have HB0 : Hid (Pn.b p.x 0 = 0) := Pn.b0_of_may HMY.out
        go_upto_region 5 with fail
        go_loopw [46] (fun iv wr => ∃ (i : Nat), i ≤ p.x.T.length ∧ iv = .int .i64 (i : Int) ∧ Hid (∃ ra rows rc ca cols cc, Pn.fillT p.x i (S.drop i) (rows, cols) = (p.x.rows, p.x.cols) ∧ ((rows.length : Nat) : Int) = Pn.bAt p.x i ∧ cols.length = rows.length ∧ (∀ y ∈ cols, ERow eI64 w y.a y.b ∧ y.b.length ≤ 1000) ∧ ChSt w wr p da p.x.defs.length dc g3 g6 g8 none [] 0 ra rows rc ca cols cc)) (fun iv _ => p.x.T.length - (intOf iv).toNat)
        case atStart =>
          refine ⟨0, Nat.zero_le _, by go_num, none, [], 0, none, [], 0, ?_, ?_, rfl, ?_, HC4.out⟩
          · rw [List.drop_zero]; exact HRC.out
          · unfold Pn.bAt
            rw [if_pos (show 0 < p.x.T.length from HSH.out.t1), HB0.out]
            rfl
          · intro y hy; cases hy
        case round =>
          obtain ⟨i, hi, rfl, HJ⟩ := hrel
          obtain ⟨ra, rows, rc, ca, cols, cc, hfill, hrl, hcl, hcy, hC⟩ := HJ.out
          have HF := Lib.hid hfill
          have HRL := Lib.hid hrl
          have HCL := Lib.hid hcl
          have HCY := Lib.hid hcy
          have HC := Lib.hid hC
          clear HJ hfill hrl hcl hcy hC
          by_cases hlt : i < p.x.T.length
          · have hii : (i : Int) < (p.x.T.length : Int) := by omega
            have hltS : i < S.length := by omega
            have hltB : i < p.x.B.length := by have := HSH.out.bl; omega
            obtain ⟨t, ht⟩ : ∃ t, S[i] = t := ⟨_, rfl⟩
            have HT := Lib.hid ht
            have HTC : Hid (CsIn w t.a t.cols) := by show CsIn _ _ _; rw [← ht]; exact HS.out.c _ (List.getElem_mem hltS)
            have HRW := Lib.hid (HS.out.r.below HC.out.b)
            obtain ⟨sb, so, rfl, -⟩ := HRW.out.range hltS
            clear ht
            go_upto_region 7 with (first
              | (refine wpList_load_stt_at rfl (.tmp 49) rfl HRW.out hltS t HT.out rfl ?_)
              | (refine wpList_alloc_stt rfl rfl ?_; intro W5 hb5 hz5 hB5)
              | (refine wpList_store_stt rfl rfl (.tmp 10) (.tmp 50) rfl _ rfl t rfl hb5 ?_; intro W6 hb6 hg6))
            have hB6 : Below wr.heap.size wr W6 := below_of_grown hB5 hg6 (Nat.le_refl _) (by omega)
            obtain ⟨gt, hgt⟩ : ∃ gt, wr.heap.size = gt := ⟨_, rfl⟩
            rw [hgt] at hb6 ⊢
            have HTB := Lib.hid hb6
            have HC6 := Lib.hid (HC.out.below hB6)
            have HGT : Hid (gt ≠ g8) := by show _ ≠ _; rw [← hgt]; have := HC.out.x.lt; omega
            clear hb5 hz5 hB5 hb6 hg6 hB6 hgt HRW HC
            obtain ⟨-, c1, -⟩ := Blk.qp HC6.out.q
            obtain ⟨bb, bo, hba, -, hbc⟩ := int_at (HP.out.b.below HC6.out.b) hltB
            rw [Pn.b_get hltB] at hbc
            rw [hba] at c1
            clear hba
            go_upto_region 8 with fail
            clear c1 hbc
            obtain ⟨b1, hb1⟩ : ∃ b1, Pn.b p.x i = b1 := ⟨_, rfl⟩
            obtain ⟨e1, he1⟩ : ∃ e1, Pn.endN p.x i = e1 := ⟨_, rfl⟩
            have hlt1 := HSH.out.lt i hlt
            rw [hb1, he1] at hlt1
            have HB1 := Lib.hid hb1
            have HE1 := Lib.hid he1
            obtain ⟨D1, hD1⟩ : ∃ D1, Pn.fillC p.x t i (e1 - b1).toNat b1 (rows, cols) = D1 := ⟨_, rfl⟩
            have HD1 := Lib.hid hD1
            have HF1 : Hid (Pn.fillT p.x (i + 1) (S.drop (i + 1)) D1 = (p.x.rows, p.x.cols)) := by
              show _ = _
              rw [← HF.out, List.drop_eq_getElem_cons hltS, HT.out, ← hD1, ← he1, ← hb1]
              rfl
            have hrl1 : (rows.length : Int) = b1 := by rw [HRL.out]; unfold Pn.bAt; rw [if_pos hlt, hb1]
            rw [hb1]
            clear hb1 he1 hD1
            go_loopw [11] (fun av wx => ∃ (x : Int), av = .int .i64 x ∧ b1 ≤ x ∧ x ≤ e1 ∧ Hid (∃ ra rows rc ca cols cc, Pn.fillC p.x t i (e1 - x).toNat x (rows, cols) = D1 ∧ ((rows.length : Nat) : Int) = x ∧ cols.length = rows.length ∧ (∀ y ∈ cols, ERow eI64 w y.a y.b ∧ y.b.length ≤ 1000) ∧ ChSt w wx p da p.x.defs.length dc g3 g6 g8 none [] 0 ra rows rc ca cols cc ∧ Blk wx gt 27 t.cells)) (fun av _ => (e1 - intOf av).toNat)
            case atStart => exact ⟨b1, rfl, Int.le_refl _, by omega, ra, rows, rc, ca, cols, cc, HD1.out, hrl1, HCL.out, HCY.out, HC6.out, HTB.out⟩
            case round =>
              obtain ⟨x, rfl, hx1, hx2, HJ⟩ := hrel
              obtain ⟨ra2, rows2, rc2, ca2, cols2, cc2, hfill, hrl2, hcl2, hcy2, hC2, hT2⟩ := HJ.out
              have HFC := Lib.hid hfill
              have HCL2 := Lib.hid hcl2
              have HCY2 := Lib.hid hcy2
              have HC2 := Lib.hid hC2
              have HT2 := Lib.hid hT2
              clear HJ hfill hcl2 hcy2 hC2 hT2
              go_wp2_with (refine wpList_load_qp0 rfl (.tmp 3) rfl g3 rfl HC2.out.q ?_)
              refine (plend_any _ p (HP.out.below HC2.out.b) i (by omega)).mono ?_
              rintro e W7 ⟨rfl, hB7⟩
              have HC7 := Lib.hid (HC2.out.below hB7)
              have HT7 := Lib.hid (HT2.out.below hB7)
              rw [HE1.out]
              clear hB7 HC2 HT2
              by_cases hxe : x < e1
              · go_upto_region 10 with fail
                have hd : Below W7.heap.size W7 W7.drew := (Below.refl _ _).drewR
                have HCD := Lib.hid (HC7.out.below hd)
                have HTD := Lib.hid (HT7.out.below hd)
                obtain ⟨-, -, d11, -⟩ := Blk.wchs HCD.out.x
                obtain ⟨t0, -⟩ := Blk.c2 HTD.out
                have hBL : Below W7.drew.heap.size W7.drew (W7.alloc (.cells #[.int .i64 t.rows] 2)).drew := by show Below W7.drew.heap.size W7.drew (W7.drew.alloc _); exact Below.alloc1 _ _
                have HRL7 : Hid (ERow eI64 (W7.alloc (.cells #[.int .i64 t.rows] 2)).drew (some ⟨W7.heap.size, 0, none⟩) [t.rows]) := ERow.lit eI64 W7.drew t.rows _ rfl _ rfl
                have HCE := Lib.hid (HCD.out.below hBL)
                have HTE := Lib.hid (HTD.out.below hBL)
                obtain ⟨-, -, x11, -⟩ := Blk.wchs HCE.out.x
                clear hd HC7 HT7 hBL HCD HTD
                refine wp_region_plan (.take 0 (.take 1 (.take 2 (.take 3 (.take 4 (.take 5 (.take 6 (.run 7 [0, 1, 2, 3, 4] (.run 8 [0] (.take 9 (.take 10 (.run 11 [] .fin)))))))))))) (by kernel_rfl) (by kernel_rfl) (by kernel_rfl) (by kernel_rfl) ?_
                repeat' (first | (refine hZ _ _ ?_; clear hZ) | (refine hZ _ ?_; clear hZ) | (refine hZ ?_; clear hZ) | rw [again_nil] | rw [walk_fin] | ((first | rw [walk_take] | rw [walk_run] | rw [again_cons]); intro Z hZ; simp only [sel, List.getElem?_toArray, List.getElem?_cons_zero, List.getElem?_cons_succ]; go_wp2_with (at_builtin; refine wpList_append_elems eI64 rfl (.tmp 67) (.tmp 70) rfl rows2.length rfl HCE.out.r rfl 1 rfl HRL7.out rfl (by simp; omega) HCE.out.b.size ?_; intro A8 c8 W8 ho8 hB8 hg8 hx8; obtain ⟨-, -, y11, -, -, z11, -⟩ := Blk.wchs (HCE.out.x.keptO HCE.out.r (by decide) hg8))))
                go_upto_region 11 with fail
                have k1 := HCE.out.addRow ho8 hg8
                have k2 : Blk (W8.setCell ⟨g8, 11, none⟩ (.slice A8 (rows2.length + 1) c8)) gt 27 t.cells := (HTE.out.keptO HCE.out.r (by decide) hg8).grown (grown_store W8 g8 11 (.slice A8 (rows2.length + 1) c8)) (by simp only [ne_eq, Option.some.injEq]; exact HGT.out)
                generalize W8.setCell ⟨g8, 11, none⟩ (.slice A8 (rows2.length + 1) c8) = W9 at k1 k2 ⊢
                have HC9 := Lib.hid k1
                have HT9 := Lib.hid k2
                clear k1 k2 ho8 hB8 hg8 hx8 HCE HTE x11 y11 z11 t0 d11 HRL7
                go_upto_region 12 with (first | (refine wpList_alloc_cs rfl rfl ?_; intro W10 hb10 hz10 hB10))
                have hB10d : Below W9.heap.size W9 W10.drew := hB10.drewR
                obtain ⟨gs, hgs⟩ : ∃ gs, W9.heap.size = gs := ⟨_, rfl⟩
                rw [hgs] at hb10 ⊢
                have HN10 : Hid (gs ≠ g8 ∧ gs ≠ gt) := by show _ ≠ _ ∧ _ ≠ _; rw [← hgs]; have := HC9.out.x.lt; have := HT9.out.lt; omega
                have HG10 := Lib.hid hb10.drew
                have HC10 := Lib.hid (HC9.out.below hB10d)
                have HT10 := Lib.hid (HT9.out.below hB10d)
                have HB910 := Lib.hid hB10d
                have HGS := Lib.hid hgs
                clear hb10 hz10 hB10 hB10d hgs
                obtain ⟨-, c1, -⟩ := Blk.qp HC10.out.q
                obtain ⟨bb, bo, hba, -, hbc⟩ := int_at (HP.out.b.below HC10.out.b) hltB
                rw [Pn.b_get hltB, HB1.out] at hbc
                rw [hba] at c1
                clear hba
                obtain ⟨-, t1, -⟩ := Blk.c2 HT10.out
                have hiB : (i : Int) < (p.x.B.length : Int) := by omega
                have hx24 : e1 ≤ 24 := by omega
                refine wp_region_plan (.take 0 (.take 1 (.take 2 (.take 3 (.take 4 (.take 5 (.take 6 (.take 7 (.take 8 (.take 9 (.take 10 .fin))))))))))) (by kernel_rfl) (by kernel_rfl) (by kernel_rfl) (by kernel_rfl) ?_
                repeat' (first | (refine hZ _ _ ?_; clear hZ) | (refine hZ _ ?_; clear hZ) | (refine hZ ?_; clear hZ) | rw [again_nil] | rw [walk_fin] | ((first | rw [walk_take] | rw [walk_run] | rw [again_cons]); intro Z hZ; simp only [sel, List.getElem?_toArray, List.getElem?_cons_zero, List.getElem?_cons_succ]; go_wp2_with (fail)))
                go_upto_if 84 with fail
                generalize W10.drew = W11 at HG10 HC10 HT10 HB910 c1 hbc t1 ⊢
                obtain ⟨cs, hcs⟩ : ∃ cs, t.cols.getD (x - b1).toNat Cs.nul = cs := ⟨_, rfl⟩
                have HCS := Lib.hid hcs
                clear hcs
                go_cut [80] from 84 to 96 (fun _ wx => Hid (Blk wx gs 31 cs.cells ∧ ChSt w wx p da p.x.defs.length dc g3 g6 g8 none [] 0 A8 (rows2 ++ [t.rows]) c8 ca2 cols2 cc2 ∧ Blk wx gt 27 t.cells))
                case first =>
                  by_cases hin : x - b1 < (t.cols.length : Int)
                  · go_upto_region 13 with fail
                    obtain ⟨k, hk⟩ : ∃ k : Nat, x - b1 = (k : Int) := ⟨(x - b1).toNat, by omega⟩
                    have hkl : k < t.cols.length := by omega
                    have HCK : Hid (t.cols[k] = cs) := by
                      show _ = _
                      rw [← HCS.out, show (x - b1).toNat = k by omega]
                      simp [List.getD, hkl]
                    have hd : Below W11.heap.size W11 W11.drew := (Below.refl _ _).drewR
                    have c1' := cell_later hd c1
                    have hbc' := cell_later hd hbc
                    have t1' := cell_later hd t1
                    have HG11 := Lib.hid (HG10.out.below hd)
                    have HB911 := Lib.hid (HB910.out.then hd)
                    have HRR := Lib.hid (HTC.out.r.below (HC10.out.b.then hd))
                    obtain ⟨ab, ao, hta, -⟩ := HRR.out.range hkl
                    rw [hta] at t1'
                    have HRS : Hid (ERow eCs W11.drew (some ⟨ab, ao, none⟩) t.cols) := by show ERow _ _ _ _; rw [← hta]; exact HRR.out
                    have hxk : wrap64 (x - b1) = (k : Int) := by rw [hk]; exact Ev.wrap_in ⟨by omega, by omega⟩
                    clear hd c1 hbc t1 HRR hta
                    refine wp_region_plan (.take 0 (.take 1 (.take 2 (.take 3 (.take 4 (.take 5 (.take 6 (.take 7 (.take 8 (.take 9 (.take 10 (.run 11 [] .fin)))))))))))) (by kernel_rfl) (by kernel_rfl) (by kernel_rfl) (by kernel_rfl) ?_
                    repeat' (first | (refine hZ _ _ ?_; clear hZ) | (refine hZ _ ?_; clear hZ) | (refine hZ ?_; clear hZ) | rw [again_nil] | rw [walk_fin] | ((first | rw [walk_take] | rw [walk_run] | rw [again_cons]); intro Z hZ; simp only [sel, List.getElem?_toArray, List.getElem?_cons_zero, List.getElem?_cons_succ]; go_wp2_with (first | (refine wpList_load_cs_at rfl (.tmp 94) rfl HRS.out hkl rfl ?_) | (refine wpList_store_cs rfl rfl (.tmp 12) (.tmp 95) rfl gs rfl _ rfl HG11.out ?_; intro W12 hb12 hg12))))
                    have hB12 : Below W9.heap.size W9 W12 := below_of_grown HB911.out hg12 (by have := HGS.out; omega) HB911.out.size
                    go_wp2_with fail
                    go_meet
                    case rel => exact ⟨by rw [← HCK.out]; exact hb12, HC9.out.below hB12, HT9.out.below hB12⟩
                  · have HNUL : Hid (cs = Cs.nul) := by
                      show _ = _
                      rw [← HCS.out, List.getD_eq_getElem?_getD, List.getElem?_eq_none (by omega)]
                      rfl
                    go_wp2_with fail
                    go_meet
                    case rel => exact ⟨by rw [HNUL.out]; exact HG10.out, HC10.out, HT10.out⟩
                case rest =>
                  have HGC := Lib.hid hcut.out.1
                  have HCC := Lib.hid hcut.out.2.1
                  have HTT := Lib.hid hcut.out.2.2
                  have HLC : Hid (cs.b.length ≤ 1000 ∧ ERow eI64 w cs.a cs.b) := by
                    show _ ∧ _
                    by_cases hin : (x - b1).toNat < t.cols.length
                    · have e : t.cols[(x - b1).toNat] = cs := by rw [← HCS.out]; simp [List.getD, hin]
                      rw [← e]
                      exact ⟨HTC.out.lens _ (List.getElem_mem hin), HTC.out.rr _ (List.getElem_mem hin)⟩
                    · have e : cs = Cs.nul := by
                        rw [← HCS.out, List.getD_eq_getElem?_getD, List.getElem?_eq_none (by omega)]
                        rfl
                      rw [e]
                      exact ⟨Nat.zero_le _, ERow.nil⟩
                  clear hcut c1 hbc t1 HC9 HT9 HB910 HGS HG10 HC10 HT10
                  go_upto_region 14 with fail
                  have hd : Below wc.heap.size wc wc.drew := (Below.refl _ _).drewR
                  have HCD := Lib.hid (HCC.out.below hd)
                  have HTD := Lib.hid (HTT.out.below hd)
                  obtain ⟨s0, s1, s2, -⟩ := Blk.c3 (HGC.out.below hd)
                  obtain ⟨-, -, -, d12, -⟩ := Blk.wchs HCD.out.x
                  have hBL : Below wc.drew.heap.size wc.drew (wc.alloc (.cells #[.int .i64 cs.d, .int .i64 cs.n, .slice cs.a cs.b.length cs.c] 31)).drew := by show Below wc.drew.heap.size wc.drew (wc.drew.alloc _); exact Below.alloc1 _ _
                  have HRL7 : Hid (ERow eCs (wc.alloc (.cells #[.int .i64 cs.d, .int .i64 cs.n, .slice cs.a cs.b.length cs.c] 31)).drew (some ⟨wc.heap.size, 0, none⟩) [cs]) := ERow.lit eCs wc.drew cs _ rfl _ rfl
                  have HCE := Lib.hid (HCD.out.below hBL)
                  have HTE := Lib.hid (HTD.out.below hBL)
                  obtain ⟨-, -, -, x12, -⟩ := Blk.wchs HCE.out.x
                  have hcl24 : cols2.length ≤ 1000 := by have := HCL2.out; omega
                  clear hd hBL HCC HTT HGC HCD HTD
                  refine wp_region_plan (.take 0 (.take 1 (.take 2 (.take 3 (.take 4 (.take 5 (.run 6 [0, 1, 2, 3, 4] (.run 7 [0] (.take 8 (.take 9 (.run 10 [] .fin))))))))))) (by kernel_rfl) (by kernel_rfl) (by kernel_rfl) (by kernel_rfl) ?_
                  repeat' (first | (refine hZ _ _ ?_; clear hZ) | (refine hZ _ ?_; clear hZ) | (refine hZ ?_; clear hZ) | rw [again_nil] | rw [walk_fin] | ((first | rw [walk_take] | rw [walk_run] | rw [again_cons]); intro Z hZ; simp only [sel, List.getElem?_toArray, List.getElem?_cons_zero, List.getElem?_cons_succ]; go_wp2_with (at_builtin; refine wpList_append_elems eCs rfl (.tmp 100) (.tmp 102) rfl cols2.length rfl HCE.out.c rfl 1 rfl HRL7.out rfl (by simp; omega) HCE.out.b.size ?_; intro A13 c13 W13 ho13 hB13 hg13 hx13; obtain ⟨-, -, -, y12, -, -, z12⟩ := Blk.wchs (HCE.out.x.keptO HCE.out.c (by decide) hg13))))
                  go_upto_region 9 with fail
                  have k1 := HCE.out.addCol ho13 hg13
                  have k2 : Blk (W13.setCell ⟨g8, 12, none⟩ (.slice A13 (cols2.length + 1) c13)) gt 27 t.cells := (HTE.out.keptO HCE.out.c (by decide) hg13).grown (grown_store W13 g8 12 (.slice A13 (cols2.length + 1) c13)) (by simp only [ne_eq, Option.some.injEq]; exact HGT.out)
                  generalize W13.setCell ⟨g8, 12, none⟩ (.slice A13 (cols2.length + 1) c13) = W14 at k1 k2 ⊢
                  have HC14 := Lib.hid k1
                  have HT14 := Lib.hid k2
                  have HFN : Hid (Pn.fillC p.x t i (e1 - (x + 1)).toNat (x + 1) (rows2 ++ [t.rows], cols2 ++ [cs]) = D1) := by
                    show _ = _
                    rw [← HFC.out, show (e1 - x).toNat = (e1 - (x + 1)).toNat + 1 by omega]
                    show _ = Pn.fillC p.x t i (e1 - (x + 1)).toNat (x + 1) (rows2 ++ [t.rows], cols2 ++ [t.cols.getD (x - Pn.b p.x i).toNat Cs.nul])
                    rw [HB1.out, HCS.out]
                  have HCYN : Hid (∀ y ∈ cols2 ++ [cs], ERow eI64 w y.a y.b ∧ y.b.length ≤ 1000) := by
                    intro y hy
                    rcases List.mem_append.1 hy with hy | hy
                    · exact HCY2.out y hy
                    · rw [List.mem_singleton.1 hy]; exact ⟨HLC.out.2, HLC.out.1⟩
                  have HLN : Hid ((((rows2 ++ [t.rows]).length : Nat) : Int) = x + 1 ∧ (cols2 ++ [cs]).length = (rows2 ++ [t.rows]).length) := by
                    show _ ∧ _
                    have := HCL2.out
                    simp
                    omega
                  clear k1 k2 ho13 hB13 hg13 hx13 HCE HTE x12 d12 y12 z12 s0 s1 s2 HRL7
                  go_wp2_with fail
                  go_roundw
                  case rel => exact ⟨x + 1, by go_num, by omega, by omega, A8, rows2 ++ [t.rows], c8, A13, cols2 ++ [cs], c13, HFN.out, HLN.out.1, HLN.out.2, HCYN.out, HC14.out, HT14.out⟩
                  case measure => simp [intOf]; omega
              · have hxe2 : x = e1 := by omega
                subst hxe2
                have HD2 : Hid (D1 = (rows2, cols2)) := by
                  show _ = _
                  rw [← HFC.out, Int.sub_self]
                  rfl
                have HF2 : Hid (Pn.fillT p.x (i + 1) (S.drop (i + 1)) (rows2, cols2) = (p.x.rows, p.x.cols)) := by show _ = _; rw [← HD2.out]; exact HF1.out
                have HRL2 : Hid (((rows2.length : Nat) : Int) = Pn.bAt p.x (i + 1)) := by show _ = _; rw [Pn.bAt_succ HSH.out hlt, HE1.out]; exact hrl2
                go_wp2_with fail
                go_roundw
                case rel => exact ⟨i + 1, by omega, by go_num, ra2, rows2, rc2, ca2, cols2, cc2, HF2.out, HRL2.out, HCL2.out, HCY2.out, HC7.out⟩
                case measure => simp [intOf]; omega
          · have hii : ¬ (i : Int) < (p.x.T.length : Int) := by omega
            have hie : i = p.x.T.length := by omega
            have HRR : Hid (rows = p.x.rows ∧ cols = p.x.cols) := by
              have e := HF.out
              rw [List.drop_eq_nil_of_le (by omega)] at e
              exact ⟨congrArg Prod.fst e, congrArg Prod.snd e⟩
            have hrW : ((rows.length : Nat) : Int) = p.x.W := by rw [HRL.out]; unfold Pn.bAt; rw [if_neg (by omega)]
            have hr24 : rows.length ≤ 24 := by
              have h1 := HSH.out.lt (p.x.T.length - 1) (by have := HSH.out.t1; omega)
              have h2 := Pn.bAt_succ HSH.out (i := p.x.T.length - 1) (by have := HSH.out.t1; omega)
              have h3 := HRL.out
              rw [show p.x.T.length - 1 + 1 = i by have := HSH.out.t1; omega, ← h3] at h2
              omega
            have HRL2 := Lib.hid hrW
            clear hrW
            obtain ⟨-, -, -, c3, -⟩ := Blk.qp HC.out.q
            go_upto_region 17 with fail
            clear c3
            go_loopw [110] (fun iv wr => ∃ (i : Nat), i ≤ p.x.wh.length ∧ iv = .int .i64 (i : Int) ∧ Hid (∃ na need nc, need = (p.x.wh.take i).map (fun y => (Pn.asks p.x y).1) ∧ (p.x.wh.take i).all (fun y => !(Pn.asks p.x y).2) = true ∧ ChSt w wr p da p.x.defs.length dc g3 g6 g8 na need nc ra rows rc ca cols cc)) (fun iv _ => p.x.wh.length - (intOf iv).toNat)
            case atStart => exact ⟨0, Nat.zero_le _, by go_num, none, [], 0, rfl, rfl, HC.out⟩
            case round =>
              obtain ⟨m, hm, rfl, HJ⟩ := hrel
              obtain ⟨na, need, nc, hne, hal, hC2⟩ := HJ.out
              have HNE := Lib.hid hne
              have HAL := Lib.hid hal
              have HC2 := Lib.hid hC2
              clear HJ hne hal hC2
              by_cases hltm : m < p.x.wh.length
              · have hmi : (m : Int) < (p.x.wh.length : Int) := by omega
                obtain ⟨y, hy⟩ : ∃ y, p.x.wh[m] = y := ⟨_, rfl⟩
                have HY := Lib.hid hy
                have HROW := Lib.hid (HP.out.wn.below HC2.out.b)
                obtain ⟨wb, wo, ha, -⟩ := HROW.out.range hltm
                have HIW : Hid (ERow eNd wr (some ⟨wb, wo, none⟩) p.x.wh) := by show ERow _ _ _ _; rw [← ha]; exact HROW.out
                have HYN : Hid (NodeIn w y) := by show NodeIn _ _; rw [← hy]; exact HP.out.nin _ (List.getElem_mem hltm)
                rw [ha]
                clear ha HROW hy
                go_upto_region 19 with (first | (refine wpList_load_nd_is rfl (.tmp 112) rfl HIW.out hltm y HY.out rfl ?_) | (refine wpList_alloc_nd rfl rfl ?_; intro W5 hb5 hz5 hB5) | (refine wpList_store_nd rfl rfl (.tmp 14) (.tmp 113) rfl _ rfl y rfl hb5 ?_; intro W6 hb6 hg6))
                have hB6 : Below wr.heap.size wr W6 := below_of_grown hB5 hg6 (Nat.le_refl _) (by omega)
                obtain ⟨gn, hgn⟩ : ∃ gn, wr.heap.size = gn := ⟨_, rfl⟩
                rw [hgn] at hb6 ⊢
                have HC6 := Lib.hid (HC2.out.below hB6)
                clear hb5 hz5 hB5 hg6 hB6 hgn HIW HC2
                go_wp2_with (first | (refine wpList_load_qp0 rfl (.tmp 3) rfl g3 rfl HC6.out.q ?_) | (refine wpList_load_nd rfl (.tmp 14) rfl gn rfl hb6 ?_))
                refine (plasks_any W6 p (HP.out.below HC6.out.b) (by have := HSH.out.bl; omega) y (nd_below15 HYN.out HC6.out.b) W6 (Below.refl _ _)).mono ?_
                rintro e W7 ⟨rfl, hB7⟩
                have HC7 := Lib.hid (HC6.out.below hB7)
                obtain ⟨am, ham⟩ : ∃ k, (Pn.asks p.x y).1 = k := ⟨_, rfl⟩
                obtain ⟨ab, hab⟩ : ∃ k, (Pn.asks p.x y).2 = k := ⟨_, rfl⟩
                have HAM := Lib.hid ham
                have HAB := Lib.hid hab
                rw [ham, hab]
                clear ham hab hB7 HC6 hb6
                cases ab with
                | true =>
                  have HER : Hid (Pn.chOk p.x p.x.T.length = false) := by
                    show _ = _
                    have h : (p.x.wh.all fun y => !(Pn.asks p.x y).2) = false := by
                      rw [List.all_eq_false]
                      exact ⟨y, by rw [← HY.out]; exact List.getElem_mem hltm, by rw [HAB.out]; decide⟩
                    unfold Pn.chOk
                    rw [h]
                    simp
                  have HO7 := Lib.hid HC7.out.o
                  have HB7 := Lib.hid HC7.out.b
                  go_wp2_with (refine wpList_store_pm rfl rfl (.tmp 6) (.tmp 121) rfl g6 rfl Pm.nil rfl HO7.out ?_; intro WE hbe hge)
                  refine ret_mem2 rfl rfl rfl rfl (load_pm hbe) ⟨Pm.nil, 1, rfl, below_of_grown HB7.out hge (by have := HN.out; omega) HB7.out.size, fun _ => PmRd.nil, .inr ⟨HER.out, rfl, rfl⟩⟩
                | false =>
                  have HNE2 : Hid (need ++ [am] = (p.x.wh.take (m + 1)).map (fun y => (Pn.asks p.x y).1)) := by
                    show _ = _
                    rw [List.take_succ_eq_append_getElem hltm, List.map_append, ← HNE.out, HY.out]
                    simp [HAM.out]
                  have HAL2 : Hid ((p.x.wh.take (m + 1)).all (fun y => !(Pn.asks p.x y).2) = true) := by
                    show _ = _
                    rw [List.take_succ_eq_append_getElem hltm, List.all_append, HAL.out, HY.out]
                    simp [HAB.out]
                  have hnl : need.length ≤ 1000 := by rw [HNE.out]; simp; omega
                  have HRL7 : Hid (ERow eMk (W7.alloc (.cells #[.int .u8 (am : Nat)] 88)) (some ⟨W7.heap.size, 0, none⟩) [am]) := ERow.lit eMk W7 am _ rfl _ rfl
                  have HCE := Lib.hid (HC7.out.below (Below.alloc1 W7 (.cells #[.int .u8 (am : Nat)] 88)))
                  obtain ⟨-, d10, -⟩ := Blk.wchs HC7.out.x
                  obtain ⟨-, x10, -⟩ := Blk.wchs HCE.out.x
                  go_upto_region 23 with (at_builtin; refine wpList_append_elems eMk rfl (.tmp 126) (.tmp 128) rfl need.length rfl HCE.out.n rfl 1 rfl HRL7.out rfl (by simp; omega) HCE.out.b.size ?_; intro A8 c8 W8 ho8 hB8 hg8 hx8; obtain ⟨-, y10, -, -, z10, -, -⟩ := Blk.wchs (HCE.out.x.keptO HCE.out.n (by decide) hg8))
                  have k1 := HCE.out.addNeed ho8 hg8
                  generalize W8.setCell ⟨g8, 10, none⟩ (.slice A8 (need.length + 1) c8) = W9 at k1 ⊢
                  have HC9 := Lib.hid k1
                  clear k1 ho8 hB8 hg8 hx8 HCE x10 d10 y10 z10 HRL7 HC7
                  go_wp2_with fail
                  go_roundw
                  case rel => exact ⟨m + 1, by omega, by go_num, A8, need ++ [am], c8, HNE2.out, HAL2.out, HC9.out⟩
                  case measure => simp [intOf]; omega
              · have hmi : ¬ (m : Int) < (p.x.wh.length : Int) := by omega
                obtain ⟨X, hX⟩ : ∃ X : Wp, X = ⟨p, da, dc, na, need, nc, ra, rc, ca, cc⟩ := ⟨_, rfl⟩
                have hme : m = p.x.wh.length := by omega
                have HAL2 : Hid ((p.x.wh.all fun y => !(Pn.asks p.x y).2) = true) := by
                  show _ = _
                  have := HAL.out
                  rw [hme, List.take_length] at this
                  exact this
                have HXP : Hid (X.p = p) := by show _ = _; rw [hX]
                have HXB : Hid (Blk wr g8 86 X.cells) := by
                  show Blk _ _ _ _
                  rw [hX]
                  unfold Wp.cells Wp.tail
                  dsimp only
                  rw [← HRR.out.1, ← HRR.out.2]
                  exact HC2.out.x
                have HXI : Hid (WpIn wr X) := by
                  show WpIn _ _
                  rw [hX]
                  refine ⟨HP.out.below HC2.out.b, HSH.out, HD.out.below HC2.out.b, HC2.out.n.row, ?_, ⟨?_, ⟨?_, ?_, ?_, ?_⟩, ?_, ?_⟩, ?_, hwl⟩
                  · have := HNE.out
                    rw [hme, List.take_length] at this
                    exact this
                  · rw [← HRR.out.1]; exact HC2.out.r.row
                  · rw [← HRR.out.2]; exact HC2.out.c.row
                  · rw [← HRR.out.2]; exact fun y hy => (HCY.out y hy).1.below HC2.out.b
                  · rw [← HRR.out.2, HCL.out]; omega
                  · rw [← HRR.out.2]; exact fun y hy => (HCY.out y hy).2
                  · rw [← HRR.out.1]; omega
                  · rw [← HRR.out.2, HCL.out]; omega
                  · rw [← HRR.out.1]; exact HRL2.out
                clear hX
                go_upto_region 24 with fail
                go_wp2_with (refine wpList_load_qp0 rfl (.tmp 3) rfl g3 rfl HC2.out.q ?_)
                refine (plsorts_any wr p (HP.out.below HC2.out.b) (by have := HSH.out.bl; omega)).mono ?_
                rintro e W5 ⟨rfl, hB5⟩
                have HC5 := Lib.hid (HC2.out.below hB5)
                have HXB5 := Lib.hid (HXB.out.below hB5)
                have HXI5 := Lib.hid (HXI.out.below hB5)
                obtain ⟨by_, hby⟩ : ∃ k, (Pn.sorts p.x).1 = k := ⟨_, rfl⟩
                obtain ⟨mu, hmu⟩ : ∃ k, (Pn.sorts p.x).2 = k := ⟨_, rfl⟩
                have HMU := Lib.hid hmu
                rw [hby, hmu]
                clear hB5 hby hmu HC2 HXB HXI
                have hol := HP.out.ol
                obtain ⟨od, hod⟩ : ∃ k, Pn.orders p.x = k := ⟨_, rfl⟩
                have HOD := Lib.hid hod
                go_upto_region 25 with fail
                go_cut [143] from 138 to 143 (fun v wx => Hid (v = .bool (od && !mu) ∧ ChSt w wx p da p.x.defs.length dc g3 g6 g8 na need nc ra rows rc ca cols cc ∧ Blk wx g8 86 X.cells ∧ WpIn wx X))
                case first =>
                  go_wp2_with (refine wpList_load_qp0 rfl (.tmp 3) rfl g3 rfl HC5.out.q ?_)
                  refine (plorders_any W5 p hol).mono ?_
                  rintro e W6 ⟨rfl, hB6⟩
                  have HC6 := Lib.hid (HC5.out.below hB6)
                  have HXB6 := Lib.hid (HXB5.out.below hB6)
                  have HXI6 := Lib.hid (HXI5.out.below hB6)
                  rw [hod]
                  clear hB6 hod HC5 HXB5 HXI5
                  cases od with
                  | false =>
                    go_wp2_with fail
                    go_meet
                    case rel => exact ⟨rfl, HC6.out, HXB6.out, HXI6.out⟩
                  | true =>
                    go_wp2_with fail
                    go_meet
                    case rel => exact ⟨by simp, HC6.out, HXB6.out, HXI6.out⟩
                case rest =>
                  obtain ⟨rfl, hc6, hxb6, hxi6⟩ := hcut.out
                  have HC6 := Lib.hid hc6
                  have HXB6 := Lib.hid hxb6
                  have HXI6 := Lib.hid hxi6
                  clear hcut hc6 hxb6 hxi6 hod HC5 HXB5 HXI5
                  by_cases hbad : (od && !mu) = true
                  · have HER : Hid (Pn.chOk p.x S.length = false) := by
                      show _ = _
                      have h1 : od = true ∧ mu = false := by revert hbad; cases od <;> cases mu <;> simp
                      unfold Pn.chOk
                      rw [HOD.out, HMU.out, h1.1, h1.2]
                      simp
                    rw [hbad]
                    have HO7 := Lib.hid HC6.out.o
                    have HB7 := Lib.hid HC6.out.b
                    go_wp2_with (refine wpList_store_pm rfl rfl (.tmp 6) (.tmp 144) rfl g6 rfl Pm.nil rfl HO7.out ?_; intro WE hbe hge)
                    refine ret_mem2 rfl rfl rfl rfl (load_pm hbe) ⟨Pm.nil, 1, rfl, below_of_grown HB7.out hge (by have := HN.out; omega) HB7.out.size, fun _ => PmRd.nil, .inr ⟨HER.out, rfl, rfl⟩⟩
                  · have hbad2 : (od && !mu) = false := by revert hbad; cases (od && !mu) <;> simp
                    have HOK : Hid (Pn.chOk p.x p.x.T.length = true) := by
                      show _ = _
                      have h1 : (!od || mu) = true := by revert hbad2; cases od <;> cases mu <;> simp
                      unfold Pn.chOk
                      rw [HOD.out, HMU.out, HMY.out, HAL2.out, h1]
                      simp [h64]
                    rw [hbad2]
                    obtain ⟨c0, -⟩ := Blk.qp HC6.out.q
                    go_wp2_with fail
                    refine (explore_any wc p.x.T.length HSH.out.t1 ht4).mono ?_
                    rintro e W7 ⟨rfl, ⟨F, hF⟩, hB7⟩
                    obtain ⟨gm, hgm⟩ : ∃ gm, wc.heap.size = gm := ⟨_, rfl⟩
                    have HM7 := Lib.hid (OptMem.start hF HSH.out.t1 (by omega))
                    have HC7 := Lib.hid (HC6.out.below hB7)
                    have HB7 := Lib.hid hB7
                    rw [hgm] at HM7 HB7 ⊢
                    have HGM := Lib.hid hgm
                    clear hF hB7 hgm c0
                    obtain ⟨c0, -⟩ := Blk.qp HC7.out.q
                    go_upto_region 28 with fail
                    go_cut [20] from 149 to 153 (fun v wx => Hid (v = .int .u8 ((2 ^ p.x.T.length - 1 : Nat) : Int) ∧ W7 = wx))
                    case first =>
                      go_wp2_with fail
                      go_meet
                      case rel => exact ⟨by rw [all8 HSH.out.t1 ht4], rfl⟩
                    case rest =>
                      obtain ⟨rfl, rfl⟩ := hcut.out
                      have HALL : Hid (1 ≤ 2 ^ p.x.T.length - 1 ∧ 2 ^ p.x.T.length - 1 < 16 ∧ 2 ^ p.x.T.length - 1 < 2 ^ p.x.T.length) := by
                        show _ ∧ _ ∧ _
                        have h1 := HSH.out.t1
                        generalize p.x.T.length = n at *
                        have hn : n = 1 ∨ n = 2 ∨ n = 3 ∨ n = 4 := by omega
                        rcases hn with rfl | rfl | rfl | rfl <;> decide
                      obtain ⟨MF, hMF⟩ : ∃ MF, Pn.optAll p.x (Pn.J p.x.T.length) 1 (2 ^ p.x.T.length - 1) (fun _ => ⟨none, none⟩) = MF := ⟨_, rfl⟩
                      have HMF := Lib.hid hMF
                      have HEND : Hid (∀ l, (MF (2 ^ p.x.T.length - 1)).ord = some l → l = Pn.choose p.x) := by
                        intro l hl
                        rw [← hMF] at hl
                        unfold Pn.choose
                        dsimp only
                        rw [hl]
                      have HEND2 : Hid (∀ l, (MF (2 ^ p.x.T.length - 1)).ord = none → (MF (2 ^ p.x.T.length - 1)).best = some l → l = Pn.choose p.x) := by
                        intro l hl hb
                        rw [← hMF] at hl hb
                        unfold Pn.choose
                        dsimp only
                        rw [hl, hb]
                        rfl
                      clear hMF
                      obtain ⟨N, hN⟩ : ∃ N, Pn.mcnt (Pn.mEnd p.x.T.length).1 = N := ⟨_, rfl⟩
                      rw [hN] at HM7
                      clear hN
                      obtain ⟨J, hJ⟩ : ∃ J, Pn.J p.x.T.length = J := ⟨_, rfl⟩
                      have HJE := Lib.hid hJ
                      rw [hJ] at HM7 HMF
                      clear hJ
                      obtain ⟨all, hall⟩ : ∃ all, 2 ^ p.x.T.length - 1 = all := ⟨_, rfl⟩
                      have HALE := Lib.hid hall
                      rw [hall] at HM7 HMF HALL HEND HEND2 ⊢
                      clear hall
                      have ha1 := HALL.out.1
                      have ha16 := HALL.out.2.1
                      have HZ := Lib.hid ptrG_zero
                      clear c0
                      go_upto_region 30 with fail
                      go_loopw [21] (fun sv wr => ∃ (s : Nat), 1 ≤ s ∧ s ≤ all + 1 ∧ sv = .int .u8 (s : Int) ∧ Hid (∃ M F, OptMem wr wc.heap.size gm N F J M all ∧ Pn.optAll p.x J s (all + 1 - s) M = MF ∧ (∀ k, 1 ≤ k → k < s → (M k).best.isSome = true) ∧ Below wc.heap.size wc wr)) (fun sv _ => all + 1 - (intOf sv).toNat)
                      case atStart => exact ⟨1, Nat.le_refl _, by omega, by go_num, _, _, by rw [HGM.out]; exact HM7.out, by rw [Nat.add_sub_cancel]; exact HMF.out, fun k k1 k2 => by omega, by rw [HGM.out]; exact HB7.out⟩
                      case round =>
                        obtain ⟨s, hs1, hs2, rfl, HJ⟩ := hrel
                        obtain ⟨M, Fs, hM, hoa, hbst, hBr⟩ := HJ.out
                        have HM := Lib.hid hM
                        have HOA := Lib.hid hoa
                        have HBS := Lib.hid hbst
                        have HBR := Lib.hid hBr
                        clear HJ hM hoa hbst hBr
                        by_cases hle : s ≤ all
                        · have hii : (s : Int) ≤ (all : Int) := by omega
                          have hs15 : (s : Int) + 1 < 256 := by omega
                          go_wp2_with fail
                          obtain ⟨g0, ja, jc, hO⟩ := HM.out.st hs1 hle
                          have hlt : s < 2 ^ p.x.T.length := by have := HALL.out.2.2; omega
                          refine (plopt_any wc g8 X HXB6.out HXI6.out gm N J M all s _ g0 ja jc hs1 hle ha16 ?_ ?_ ?_ wr HBR.out hO).mono ?_
                          · rw [← HJE.out]; exact Pn.J_few _ (by omega) HSH.out.t1 _ hlt hs1
                          · intro j hj
                            rw [← HJE.out] at hj
                            obtain ⟨a1, a2, a3, a4⟩ := Pn.J_parts (by omega) HSH.out.t1 hlt hs1 j hj
                            exact ⟨a1, by omega, a2, by omega, by omega, by omega, HBS.out _ a1 a3, HBS.out _ a2 a4⟩
                          · rw [← HJE.out]
                            cases ho : Pn.one s with
                            | some f => exact .inl ⟨f, rfl, by rw [HXP.out]; exact Pn.J_one _ (by omega) HSH.out.t1 _ hlt hs1 f ho⟩
                            | none =>
                              refine .inr ⟨rfl, fun e => ?_⟩
                              have := Pn.J_ways _ (by omega) HSH.out.t1 _ hlt hs1 ho
                              rw [e] at this
                              cases this
                          rintro e w8 ⟨rfl, hO8, hB8⟩
                          obtain ⟨F8, hM8⟩ := hO8.mem
                          rw [HXP.out] at hM8
                          have HM8 := Lib.hid hM8
                          have HB8 := Lib.hid hB8
                          have HNE : Hid ((Pn.opt p.x J M s).best.isSome = true) := Pn.opt_some _ _ _ _ (by
                            rw [← HJE.out]
                            exact Pn.ways HSH.out.t1 (by omega) hs1 hlt)
                          clear hO hO8 hM8 hB8
                          go_wp2_with fail
                          go_roundw
                          case rel =>
                            refine ⟨s + 1, by omega, by omega, by go_num, _, F8, HM8.out, ?_, ?_, HB8.out⟩
                            · have e := HOA.out
                              rw [show all + 1 - s = (all + 1 - (s + 1)) + 1 by omega, Pn.optAll_succ] at e
                              exact e
                            · intro k k1 k2
                              exact Pn.set_some HBS.out HNE.out k k1 k2
                          case measure => simp [intOf]; omega
                        · have hii : ¬ (s : Int) ≤ (all : Int) := by omega
                          have hse : s = all + 1 := by omega
                          have HME : Hid (M = MF) := by
                            have e := HOA.out
                            rw [hse, Nat.sub_self] at e
                            exact e
                          have HB1 := Lib.hid (HBS.out all ha1 (by omega))
                          clear HOA hse
                          obtain ⟨x, hx⟩ := HM.out.ex all ha1 (Nat.le_refl _)
                          have hmp := HM.out.at_.map
                          obtain ⟨g9, hg9⟩ : ∃ g9, x.g = g9 := ⟨_, rfl⟩
                          have hfs : (fun k => (Fs k).map Gb.g) all = some g9 := by show (Fs all).map Gb.g = _; rw [hx, ← hg9]; rfl
                          have hgb := HM.out.at_.blk all x hx
                          unfold Gb.cells at hgb
                          rw [hg9] at hgb
                          have hbv := HM.out.bv all x hx
                          have hov := HM.out.ov all x hx
                          obtain ⟨bv, hbve⟩ : ∃ bv, x.bv = bv := ⟨_, rfl⟩
                          obtain ⟨ov, hove⟩ : ∃ ov, x.ov = ov := ⟨_, rfl⟩
                          rw [hbve, hove] at hgb
                          rw [hbve] at hbv
                          rw [hove] at hov
                          obtain ⟨-, c1, c2, -⟩ := Blk.c3 hgb
                          have HCR := Lib.hid (HC6.out.below (HBR.out))
                          clear hx hg9 hbve hove hgb HM
                          obtain ⟨os, hos⟩ : ∃ os, (M all).ord = os := ⟨_, rfl⟩
                          obtain ⟨bs, hbs⟩ : ∃ bs, (M all).best = bs := ⟨_, rfl⟩
                          have HOS := Lib.hid hos
                          have HBS2 := Lib.hid hbs
                          rw [hos] at hov
                          rw [hbs] at hbv HB1
                          clear hos hbs
                          have HOr := Lib.hid HCR.out.o
                          have HBr := Lib.hid HCR.out.b
                          cases os with
                          | some l =>
                            obtain ⟨gp, pp, rfl, hpa⟩ := hov
                            have HPA := Lib.hid hpa
                            clear hpa hbv
                            go_wp2_with (first
                              | (at_lookup; refine wpList_memo_at rfl (.tmp 163) (.tmp 164) rfl rfl hmp all rfl (by omega) (HZ.out _) g9 hfs ?_)
                              | (refine wpList_load_pm rfl (.tmp 172) rfl gp rfl HPA.out.b ?_)
                              | (refine wpList_store_pm rfl rfl (.tmp 6) (.tmp 173) rfl g6 rfl pp rfl HOr.out ?_; intro WE hbe hge))
                            refine ret_mem2 rfl rfl rfl rfl (load_pm hbe) ⟨pp, 0, rfl, below_of_grown HBr.out hge (by have := HN.out; omega) HBr.out.size, fun hn => HPA.out.i.rd hn HOr.out hge, .inl ⟨by first | exact HOK.out | (rw [hST]; exact HOK.out), rfl, ?_⟩⟩
                            rw [HPA.out.e]
                            exact HEND.out l (by rw [← HME.out]; exact HOS.out)
                          | none =>
                            obtain rfl : ov = .pointer none := hov
                            obtain ⟨l, hl⟩ := Option.isSome_iff_exists.1 HB1.out
                            rw [hl] at hbv
                            obtain ⟨gp, pp, rfl, hpa⟩ := hbv
                            have HPA := Lib.hid hpa
                            have HL := Lib.hid hl
                            clear hpa hl
                            go_wp2_with (first
                              | (at_lookup; refine wpList_memo_at rfl (.tmp 163) (.tmp 164) rfl rfl hmp all rfl (by omega) (HZ.out _) g9 hfs ?_)
                              | (at_lookup; refine wpList_memo_at rfl (.tmp 174) (.tmp 175) rfl rfl hmp all rfl (by omega) (HZ.out _) g9 hfs ?_)
                              | (refine wpList_load_pm rfl (.tmp 180) rfl gp rfl HPA.out.b ?_)
                              | (refine wpList_store_pm rfl rfl (.tmp 6) (.tmp 181) rfl g6 rfl pp rfl HOr.out ?_; intro WE hbe hge))
                            refine ret_mem2 rfl rfl rfl rfl (load_pm hbe) ⟨pp, 0, rfl, below_of_grown HBr.out hge (by have := HN.out; omega) HBr.out.size, fun hn => HPA.out.i.rd hn HOr.out hge, .inl ⟨by first | exact HOK.out | (rw [hST]; exact HOK.out), rfl, ?_⟩⟩
                            rw [HPA.out.e]
                            exact HEND2.out l (by rw [← HME.out]; exact HOS.out) (by rw [← HME.out, HBS2.out]; exact HL.out)
      · have h6i : 64 < (p.x.defs.length : Int) := by omega
        have HER : Hid (Pn.chOk p.x S.length = false) := by show _ = _; unfold Pn.chOk; rw [decide_eq_false h64]; simp
        go_wp2_with (refine wpList_store_pm rfl rfl (.tmp 6) (.tmp 39) rfl g6 rfl Pm.nil rfl HO3.out ?_; intro WE hbe hge)
        refine ret_mem2 rfl rfl rfl rfl (load_pm hbe) ⟨Pm.nil, 1, rfl, below_of_grown HB3.out hge (by have := HN.out; omega) HB3.out.size, fun _ => PmRd.nil, .inr ⟨HER.out, rfl, rfl⟩⟩
    · have hSi : ¬ (S.length : Int) = (p.x.T.length : Int) := by omega
      have HER : Hid (Pn.chOk p.x S.length = false) := by show _ = _; unfold Pn.chOk; rw [beq_eq_false_iff_ne.2 hST]; simp
      go_wp2_with (refine wpList_store_pm rfl rfl (.tmp 6) (.tmp 39) rfl g6 rfl Pm.nil rfl HO3.out ?_; intro WE hbe hge)
      refine ret_mem2 rfl rfl rfl rfl (load_pm hbe) ⟨Pm.nil, 1, rfl, below_of_grown HB3.out hge (by have := HN.out; omega) HB3.out.size, fun _ => PmRd.nil, .inr ⟨HER.out, rfl, rfl⟩⟩
end Go.Proofs.Ytjdffhonljhpcaa
end

section
/-
  What comes into the planner's laws; the contracts of the laws' size and small.
-/
namespace Go.Proofs.Ytjdffhonljhpcaa
set_option linter.unusedSimpArgs false
set_option linter.unusedVariables false
open Go.RowKit Go.Deep Go.WideShapes Go.ChangeShapes

instance : Inhabited Cs := ⟨Cs.nul⟩
/-- A query as it comes in: of any size. -/
structure QpRaw (w : World) (p : Qp) : Prop where
  t : ERow eInt w p.ta p.x.T
  tin : ∀ n ∈ p.x.T, Ev.inB n
  tl : p.x.T.length ≤ p.tc
  tm : p.tc ≤ maxLen
  b : ERow eInt w p.ba p.x.B
  bin : ∀ n ∈ p.x.B, Ev.inB n
  bl : p.x.B.length ≤ p.bc
  bm : p.bc ≤ maxLen
  win : Ev.inB p.x.W
  wn : ERow eNd w p.wa p.x.wh
  nin : ∀ n ∈ p.x.wh, NodeIn w n
  wl : p.x.wh.length ≤ p.wc
  wm : p.wc ≤ maxLen
  o : ERow eSo w p.oa p.x.ord
  oin : ∀ s ∈ p.x.ord, Ev.inB s.at_
  ol : p.x.ord.length ≤ p.oc
  om : p.oc ≤ maxLen
theorem QpRaw.below {w W : World} {p : Qp} (h : QpRaw w p) (hB : Below w.heap.size w W) : QpRaw W p :=
  ⟨h.t.below hB, h.tin, h.tl, h.tm, h.b.below hB, h.bin, h.bl, h.bm, h.win, h.wn.below hB, fun n hn => nd_below15 (h.nin n hn) hB, h.wl, h.wm, h.o.below hB, h.oin, h.ol, h.om⟩
/-- What is known of a column, as it comes in. -/
def CsRw (w : World) (c : Cs) : Prop := ERow eI64 w c.a c.b ∧ c.b.length ≤ c.c ∧ c.c ≤ maxLen
def SttRaw (w : World) (t : Stt) : Prop := ERow eCs w t.a t.cols ∧ (∀ c ∈ t.cols, CsRw w c) ∧ t.cols.length ≤ t.c ∧ t.c ≤ maxLen
def DfRaw (w : World) (d : Df) : Prop := ERow eInt w d.a d.cols ∧ (∀ c ∈ d.cols, Ev.inB c) ∧ d.cols.length ≤ d.c ∧ d.c ≤ maxLen
theorem SttRaw.below {w W : World} {t : Stt} (h : SttRaw w t) (hB : Below w.heap.size w W) : SttRaw W t := ⟨h.1.below hB, fun c hc => ⟨(h.2.1 c hc).1.below hB, (h.2.1 c hc).2⟩, h.2.2⟩
theorem DfRaw.below {w W : World} {d : Df} (h : DfRaw w d) (hB : Below w.heap.size w W) : DfRaw W d := ⟨h.1.below hB, h.2⟩
def QpW (w : World) (v : Value) : Prop := ∃ p : Qp, v = p.v ∧ QpRaw w p
def SttsW (w : World) (v : Value) : Prop := ∃ A c L, v = .slice A (List.length L) c ∧ ERow eStt w A L ∧ (∀ t ∈ L, SttRaw w t) ∧ L.length ≤ c ∧ c ≤ maxLen
def DfsW (w : World) (v : Value) : Prop := ∃ A c L, v = .slice A (List.length L) c ∧ ERow eDf w A L ∧ (∀ d ∈ L, DfRaw w d) ∧ L.length ≤ c ∧ c ≤ maxLen
section
variable {H : Type} {enc : TypeId × Value → H} {w : World} {base : Nat} {spare : Nat → Bool} {held : Bool} {fuel : Nat} {cs : List Value} {x : DataW H × List MemPlace}
theorem open_i64s17 (h : DataW.trod enc Try.prog w base spare held fuel 29 cs = some x) : ∃ A L c, cs = [.slice A (List.length L) c] ∧ ERow eI64 w A L ∧ (∀ n ∈ L, -9223372036854775808 ≤ n ∧ n ≤ 9223372036854775807) ∧ L.length ≤ c ∧ c ≤ maxLen :=
  open_elems eI64 (by kernel_rfl) _ (fun fuel cs x h _ => by
    obtain ⟨n, rfl, h1, h2⟩ := open_i64 Try.underlying2 h
    exact ⟨n, rfl, h1, h2⟩) h
set_option maxRecDepth 20000 in
theorem open_cs17 (h : DataW.trod enc Try.prog w base spare held fuel 31 cs = some x) (hlen : cs.length = 3) : ∃ c : Cs, cs = eCs.code c ∧ CsRw w c := by
  obtain ⟨xs, k, hk, rfl, _, hxl, hfs⟩ := DataW.trod_struct Try.underlying31 h
  match xs, hxl, cs, hlen with
  | [y0, y1, y2], _, [v0, v1, v2], _ =>
    have g0 := hfs 0 _ rfl
    have g1 := hfs 1 _ rfl
    have g2 := hfs 2 _ rfl
    have q0 : Try.prog.cellsOf 2 = 1 := by kernel_rfl
    have q1 : Try.prog.cellsOf 29 = 1 := by kernel_rfl
    simp [q0, q1] at g0 g1 g2
    obtain ⟨n0, e0, _⟩ := open_i64 Try.underlying2 g0
    obtain ⟨n1, e1, _⟩ := open_i64 Try.underlying2 g1
    obtain ⟨A, L, c, e2, r2, i2, l2, m2⟩ := open_i64s17 g2
    have e0' : v0 = .int .i64 n0 := by simpa using e0
    have e1' : v1 = .int .i64 n1 := by simpa using e1
    have e2' : v2 = .slice A L.length c := by simpa using e2
    subst e0' e1' e2'
    exact ⟨⟨n0, n1, A, L, c⟩, rfl, r2, l2, m2⟩
set_option maxRecDepth 20000 in
theorem open_stt (h : DataW.trod enc Try.prog w base spare held fuel 27 cs = some x) (hlen : cs.length = 2) : ∃ t : Stt, cs = eStt.code t ∧ SttRaw w t := by
  obtain ⟨xs, k, hk, rfl, _, hxl, hfs⟩ := DataW.trod_struct Try.underlying27 h
  match xs, hxl, cs, hlen with
  | [y0, y1], _, [v0, v1], _ =>
    have g0 := hfs 0 _ rfl
    have g1 := hfs 1 _ rfl
    have q0 : Try.prog.cellsOf 2 = 1 := by kernel_rfl
    have q1 : Try.prog.cellsOf 25 = 1 := by kernel_rfl
    simp [q0, q1] at g0 g1
    obtain ⟨n0, e0, _⟩ := open_i64 Try.underlying2 g0
    obtain ⟨A, L, c, e1, r1, i1, l1, m1⟩ := open_elems eCs (by kernel_rfl) (CsRw w) (fun fuel cs x h hlen => open_cs17 h hlen) g1
    have e0' : v0 = .int .i64 n0 := by simpa using e0
    have e1' : v1 = .slice A L.length c := by simpa using e1
    subst e0' e1'
    exact ⟨⟨n0, A, L, c⟩, rfl, r1, i1, l1, m1⟩
set_option maxRecDepth 20000 in
theorem open_df (h : DataW.trod enc Try.prog w base spare held fuel 61 cs = some x) (hlen : cs.length = 3) : ∃ d : Df, cs = eDf.code d ∧ DfRaw w d := by
  obtain ⟨xs, k, hk, rfl, _, hxl, hfs⟩ := DataW.trod_struct Try.underlying61 h
  match xs, hxl, cs, hlen with
  | [y0, y1, y2], _, [v0, v1, v2], _ =>
    have g0 := hfs 0 _ rfl
    have g1 := hfs 1 _ rfl
    have g2 := hfs 2 _ rfl
    have q0 : Try.prog.cellsOf 3 = 1 := by kernel_rfl
    have q1 : Try.prog.cellsOf 46 = 1 := by kernel_rfl
    have q2 : Try.prog.cellsOf 4 = 1 := by kernel_rfl
    simp [q0, q1, q2] at g0 g1 g2
    obtain ⟨n0, e0, _⟩ := open_i64 Try.underlying3 g0
    obtain ⟨A, L, c, e1, r1, i1, l1, m1⟩ := open_intlist g1
    obtain ⟨b, e2, _⟩ := DataW.trod_bool Try.underlying4 g2
    have e0' : v0 = .int .i64 n0 := by simpa using e0
    have e1' : v1 = .slice A L.length c := by simpa using e1
    have e2' : v2 = .bool b := by simpa using e2
    subst e0' e1' e2'
    exact ⟨⟨n0, A, L, c, b⟩, rfl, r1, i1, l1, m1⟩
set_option maxRecDepth 20000 in
theorem open_qp (h : DataW.trod enc Try.prog w base spare held fuel 50 cs = some x) (hlen : cs.length = 9) : ∃ p : Qp, cs = p.cells ∧ QpRaw w p := by
  obtain ⟨xs, k, hk, rfl, _, hxl, hfs⟩ := DataW.trod_struct Try.underlying50 h
  match xs, hxl, cs, hlen with
  | [y0, y1, y2, y3, y4, y5, y6, y7, y8], _, [v0, v1, v2, v3, v4, v5, v6, v7, v8], _ =>
    have g0 := hfs 0 _ rfl
    have g1 := hfs 1 _ rfl
    have g2 := hfs 2 _ rfl
    have g3 := hfs 3 _ rfl
    have g4 := hfs 4 _ rfl
    have g5 := hfs 5 _ rfl
    have g6 := hfs 6 _ rfl
    have g7 := hfs 7 _ rfl
    have g8 := hfs 8 _ rfl
    have q0 : Try.prog.cellsOf 3 = 1 := by kernel_rfl
    have q1 : Try.prog.cellsOf 46 = 1 := by kernel_rfl
    have q2 : Try.prog.cellsOf 48 = 1 := by kernel_rfl
    have q3 : Try.prog.cellsOf 4 = 1 := by kernel_rfl
    have q4 : Try.prog.cellsOf 47 = 1 := by kernel_rfl
    simp [q0, q1, q2, q3, q4] at g0 g1 g2 g3 g4 g5 g6 g7 g8
    obtain ⟨ta, tr, tc, e0, r0, i0, l0, m0⟩ := open_intlist g0
    obtain ⟨ba, br, bc, e1, r1, i1, l1, m1⟩ := open_intlist g1
    obtain ⟨n2, e2, b2⟩ := open_i64 Try.underlying3 g2
    obtain ⟨wa, wh, wc, e3, r3, i3, l3, m3⟩ := open_nodes g3
    obtain ⟨ga, gr, gc, e4, r4, i4, l4, m4⟩ := open_intlist g4
    obtain ⟨n5, e5, _⟩ := DataW.trod_bool Try.underlying4 g5
    obtain ⟨ia, it, ic, e6, r6, i6, l6, m6⟩ := open_nodes g6
    obtain ⟨oa, od, oc, e7, r7, i7, l7, m7⟩ := open_sorts g7
    obtain ⟨n8, e8, b8⟩ := open_i64 Try.underlying3 g8
    have e0' : v0 = .slice ta tr.length tc := by simpa using e0
    have e1' : v1 = .slice ba br.length bc := by simpa using e1
    have e2' : v2 = .int .i64 n2 := by simpa using e2
    have e3' : v3 = .slice wa wh.length wc := by simpa using e3
    have e4' : v4 = .slice ga gr.length gc := by simpa using e4
    have e5' : v5 = .bool n5 := by simpa using e5
    have e6' : v6 = .slice ia it.length ic := by simpa using e6
    have e7' : v7 = .slice oa od.length oc := by simpa using e7
    have e8' : v8 = .int .i64 n8 := by simpa using e8
    subst e0' e1' e2' e3' e4' e5' e6' e7' e8'
    exact ⟨⟨⟨tr, br, n2, wh, n5, od, [], [], []⟩, ta, tc, ba, bc, wa, wc, ga, gr, gc, ia, it, ic, oa, oc, n8⟩, rfl, r0, i0, l0, m0, r1, i1, l1, m1, b2, r3, i3, l3, m3, r7, i7, l7, m7⟩
end
set_option maxRecDepth 20000 in
theorem qp_in {H : Type} {enc : TypeId × Value → H} {w : World} {base : Nat} {v : Value} {d : DataW H} {p : List MemPlace}
    (hv : Value.okWide Try.prog w .any base 50 v) (h : DataW.Trod enc Try.prog w 0 (fun _ => true) true 50 v d p) : QpW w v := by
  have hag : ∃ cs : Array Value, v = .agg cs := by
    simp only [Value.okWide, Try.underlying50] at hv
    obtain ⟨cs, h1, _⟩ := hv
    exact ⟨cs, h1⟩
  obtain ⟨cs, rfl⟩ := hag
  obtain ⟨fuel, hf⟩ := h
  have h9 : Try.prog.cellsOf 50 = 9 := by kernel_rfl
  have hlen : cs.toList.length = 9 := by
    obtain ⟨xs, k, hk, -, hcl, hxl, hfs⟩ := DataW.trod_struct Try.underlying50 hf
    rw [h9] at hcl
    simpa [Value.cells] using hcl
  obtain ⟨q, e, hq⟩ := open_qp hf hlen
  refine ⟨q, ?_, hq⟩
  show Value.agg cs = .agg q.cells.toArray
  rw [← e]
  rfl
set_option maxRecDepth 20000 in
theorem stts_in {H : Type} {enc : TypeId × Value → H} {w : World} {base : Nat} {v : Value} {d : DataW H} {p : List MemPlace}
    (hv : Value.okWide Try.prog w .any base 51 v) (h : DataW.Trod enc Try.prog w 0 (fun _ => true) true 51 v d p) : SttsW w v := by
  obtain ⟨a0, len0, cap0, rfl⟩ := okWide_slice Try.underlying51 hv
  obtain ⟨fuel, hf⟩ := h
  obtain ⟨A, L, c, h1, h2, h3, h4, h5⟩ := open_elems eStt (by kernel_rfl) (SttRaw w) (fun fuel cs x h hlen => open_stt h hlen) hf
  simp [Value.cells] at h1
  obtain ⟨rfl, rfl, rfl⟩ := h1
  exact ⟨_, _, L, rfl, h2, h3, h4, h5⟩
set_option maxRecDepth 20000 in
theorem dfs_in {H : Type} {enc : TypeId × Value → H} {w : World} {base : Nat} {v : Value} {d : DataW H} {p : List MemPlace}
    (hv : Value.okWide Try.prog w .any base 52 v) (h : DataW.Trod enc Try.prog w 0 (fun _ => true) true 52 v d p) : DfsW w v := by
  obtain ⟨a0, len0, cap0, rfl⟩ := okWide_slice Try.underlying52 hv
  obtain ⟨fuel, hf⟩ := h
  obtain ⟨A, L, c, h1, h2, h3, h4, h5⟩ := open_elems eDf (by kernel_rfl) (DfRaw w) (fun fuel cs x h hlen => open_df h hlen) hf
  simp [Value.cells] at h1
  obtain ⟨rfl, rfl, rfl⟩ := h1
  exact ⟨_, _, L, rfl, h2, h3, h4, h5⟩
/-! ### an index at a place -/
theorem df_info : (Try.prog.info? 61).map (·.size) = some 3 := by kernel_rfl
def Df.nul : Df := ⟨0, none, [], 0, false⟩
theorem df_zero (W : World) : (zeroValue 61).run Try.prog W = .ok Df.nul.v W := (zero_of_info (P := Try.prog) (t := 61) (v := Df.nul.v) (n := 3) (by kernel_rfl)).1 W
section
variable {w : World} {ops : Array Oper} {rest : List Oper} {o : Oper} {a : Act} {Q : Exit → Act → World → Prop}
theorem wpList_alloc_df (hgd : o.guard = none) (hop : o.op = .alloc 61)
    (h : ∀ W, Blk W w.heap.size 61 Df.nul.cells → w.heap.size + 1 ≤ W.heap.size → Below w.heap.size w W → wpList Try.prog ops Q rest (a.put o.dst (.pointer (some ⟨w.heap.size, 0, none⟩))) W) : wpList Try.prog ops Q (o :: rest) a w :=
  wpList_alloc_z hgd 61 hop (df_zero _) fun W hW => by
    obtain ⟨h1, h2, h3⟩ := fresh1 (a := Df.nul.cells) hW
    exact h W h1 h2 h3
theorem wpList_store_df (hgd : o.guard = none) (hod : o.dst = none) (x y : Operand) (hop : o.op = .store 61 x y) (g : Nat) (hx : a.eval x = .pointer (some ⟨g, 0, none⟩)) (b : Df) (hy : a.eval y = b.v) {T0 : TypeId} {old : Df} (hb : Blk w g T0 old.cells)
    (h : ∀ W, Blk W g T0 b.cells → w.grownBy W (some g) → wpList Try.prog ops Q rest a W) : wpList Try.prog ops Q (o :: rest) a w :=
  wpList_store_blk hgd hod 61 x y hop g hx b.cells hy hb rfl df_info (eDf.one b) h
theorem wpList_load_df_at (hgd : o.guard = none) (x : Operand) (hop : o.op = .load 61 x) {b off : Nat} {L : List Df} (hr : ERow eDf w (some ⟨b, off, none⟩) L) {j : Nat} (hj : j < L.length) (p : Df) (hp : L[j] = p) (hx : a.eval x = .pointer (some ⟨b, off + j * 3, none⟩))
    (h : wpList Try.prog ops Q rest (a.put o.dst p.v) w) : wpList Try.prog ops Q (o :: rest) a w := by
  subst hp
  obtain ⟨b', off', e, hb, hrg⟩ := hr.range hj
  cases e
  exact wpList_load_mid hgd 61 x hop b (off + j * 3) hx L[j].cells _ hrg Try.underlying61 rfl df_info h
end
/-! ### size and small -/
/-- size answers some number. -/
def SizesTo17 (w : World) (n : Nd) : Prop := ∀ W, Below w.heap.size w W → ∀ m : Int, Calls Try.prog 42 #[n.v, .int .i64 m] W (RetNum15 W)
set_option maxRecDepth 20000 in
set_option maxHeartbeats 4000000 in
theorem size17_any (w : World) (n : Nd) (hn : NodeIn w n) : SizesTo17 w n := by
  induction hn with
  | @mk n hr hin hlit hls hk hat hc hm ih =>
  have HR := Lib.hid hr
  have HI := Lib.hid ih
  have hcm : n.args.length ≤ 9223372036854775807 := by unfold maxLen at hm; omega
  clear hr hin hlit hls hk hat hc hm ih
  intro W hB m
  have HB := Lib.hid hB
  clear hB
  go_enter Try.func42, Try.ntmps42
  go_upto_region 1 with (refine wpList_box_nd rfl (.tmp 0) rfl n rfl ?_; intro W1 hb1 hz1 hB1)
  have HB1 := Lib.hid hB1
  obtain ⟨-, -, -, -, -, -, -, -, -, c9, -⟩ := Blk.c10 hb1
  clear hB1 hb1 hz1
  generalize W.heap.size = g2 at c9 ⊢
  go_wp2_with fail
  clear c9
  go_loopw [5, 11] (fun v5 iv wr => ∃ (r : Int) (i : Nat), v5 = .int .i64 r ∧ i ≤ n.args.length ∧ iv = .int .i64 (i : Int) ∧ Hid (Below W.heap.size W wr)) (fun _ iv _ => n.args.length - (intOf iv).toNat)
  case atStart => exact ⟨_, 0, rfl, Nat.zero_le _, by go_num, HB1.out⟩
  case round =>
    obtain ⟨r, i, rfl, hi, rfl, HJ⟩ := hrel
    by_cases hlt : i < n.args.length
    · have hii : (i : Int) < (n.args.length : Int) := by omega
      obtain ⟨bb, oo, ha, -, -⟩ := HR.out.at_ hlt
      have HIW : Hid (ERow eNd wr (some ⟨bb, oo, none⟩) n.args) := by show ERow _ _ _ _; rw [← ha]; exact HR.out.below (HB.out.then HJ.out)
      rw [ha]
      clear ha
      go_upto_region 5 with (first | (refine wpList_load_nd_at rfl (.tmp 13) rfl HIW.out hlt rfl ?_) | (refine wpList_alloc_nd rfl rfl ?_; intro W6 hb6 hz6 hB6) | (refine wpList_store_nd rfl rfl (.tmp 7) (.tmp 14) rfl wr.heap.size rfl n.args[i] rfl hb6 ?_; intro W7 hb7 hg7))
      have HB7 := Lib.hid (below_of_grown (HJ.out.then hB6) hg7 HJ.out.size (Nat.le_trans HJ.out.size hB6.size))
      clear hb6 hz6 hB6 hg7 HIW
      generalize wr.heap.size = g7 at hb7 ⊢
      by_cases hrm : m < r
      · go_wp2_with fail
        go_ret
        exact ⟨r, rfl, HB7.out⟩
      · go_wp2_with (refine wpList_load_nd rfl (.tmp 7) rfl g7 rfl hb7 ?_)
        refine (HI.out _ (List.getElem_mem hlt) W7 (HB.out.then HB7.out) _).mono ?_
        rintro e W8 ⟨r2, rfl, hB8⟩
        have HB8 := Lib.hid (HB7.out.then hB8)
        clear hB8 hb7
        go_wp2_with fail
        go_roundw
        case rel => exact ⟨_, i + 1, rfl, by omega, by go_num, HB8.out⟩
        case measure => simp [intOf]; omega
    · have hii : ¬ (i : Int) < (n.args.length : Int) := by omega
      go_wp2_with fail
      go_ret
      exact ⟨r, rfl, HJ.out⟩
/-- Small enough to be tried. -/
structure SmallP (x : Pn.PX) (S : List Stt) (D : List Df) : Prop where
  wh : x.wh.length ≤ 10
  ord : x.ord.length ≤ 6
  s : S.length ≤ 6
  d : D.length ≤ 12
  t : x.T.length ≤ 6
  b : x.B.length ≤ 6
  sc : ∀ t ∈ S, t.cols.length ≤ 20 ∧ ∀ c ∈ t.cols, c.b.length ≤ 20
  dc : ∀ d ∈ D, d.cols.length ≤ 6
def RetIf17 (w : World) (P : Prop) (e : Ending) (w' : World) : Prop := ∃ b : Bool, e = .returned (.bool b) ∧ (b = true → P) ∧ Below w.heap.size w w'
set_option maxRecDepth 20000 in
set_option maxHeartbeats 4000000 in
theorem small17_any (w : World) (p : Qp) (hp : QpRaw w p) (sa : Option Addr) (S : List Stt) (sc : Nat) (hS : ERow eStt w sa S) (hSr : ∀ t ∈ S, SttRaw w t) (hSl : S.length ≤ sc) (hSm : sc ≤ maxLen)
    (da : Option Addr) (D : List Df) (dc : Nat) (hD : ERow eDf w da D) (hDr : ∀ d ∈ D, DfRaw w d) (hDl : D.length ≤ dc) (hDm : dc ≤ maxLen) :
    Calls Try.prog 18 #[p.v, .slice sa S.length sc, .slice da D.length dc] w (RetIf17 w (SmallP p.x S D)) := by
  have HP := Lib.hid hp
  have HS := Lib.hid hS
  have HSR := Lib.hid hSr
  have HD := Lib.hid hD
  have HDR := Lib.hid hDr
  have l1 : p.x.wh.length ≤ 9223372036854775807 := by have := hp.wl; have := hp.wm; unfold maxLen at this; omega
  have l2 : p.x.ord.length ≤ 9223372036854775807 := by have := hp.ol; have := hp.om; unfold maxLen at this; omega
  have l3 : S.length ≤ 9223372036854775807 := by unfold maxLen at hSm; omega
  have l4 : D.length ≤ 9223372036854775807 := by unfold maxLen at hDm; omega
  have l5 : p.x.T.length ≤ 9223372036854775807 := by have := hp.tl; have := hp.tm; unfold maxLen at this; omega
  have l6 : p.x.B.length ≤ 9223372036854775807 := by have := hp.bl; have := hp.bm; unfold maxLen at this; omega
  clear hp hS hSr hSl hSm hD hDr hDl hDm
  go_enter Try.func18, Try.ntmps18
  go_upto_region 1 with (refine wpList_box_qp rfl (.tmp 0) rfl p rfl ?_; intro W1 hb1 hz1 hB1)
  obtain ⟨g3, hg3⟩ : ∃ g, w.heap.size = g := ⟨_, rfl⟩
  have HB1 := Lib.hid hB1
  rw [hg3] at hb1 ⊢
  have HQ := Lib.hid hb1
  obtain ⟨c0, c1, -, c3, -, c7⟩ := Blk.qp hb1
  clear hz1 hB1 hb1 hg3
  by_cases k1 : 10 < p.x.wh.length
  · have i1 : (10 : Int) < (p.x.wh.length : Int) := by omega
    go_wp2_with fail
    go_ret
    exact ⟨false, rfl, by simp, HB1.out⟩
  have i1 : ¬ (10 : Int) < (p.x.wh.length : Int) := by omega
  by_cases k2 : 6 < p.x.ord.length
  · have i2 : (6 : Int) < (p.x.ord.length : Int) := by omega
    go_wp2_with fail
    go_ret
    exact ⟨false, rfl, by simp, HB1.out⟩
  have i2 : ¬ (6 : Int) < (p.x.ord.length : Int) := by omega
  by_cases k3 : 6 < S.length
  · have i3 : (6 : Int) < (S.length : Int) := by omega
    go_wp2_with fail
    go_ret
    exact ⟨false, rfl, by simp, HB1.out⟩
  have i3 : ¬ (6 : Int) < (S.length : Int) := by omega
  by_cases k4 : 12 < D.length
  · have i4 : (12 : Int) < (D.length : Int) := by omega
    go_wp2_with fail
    go_ret
    exact ⟨false, rfl, by simp, HB1.out⟩
  have i4 : ¬ (12 : Int) < (D.length : Int) := by omega
  by_cases k5 : 6 < p.x.T.length
  · have i5 : (6 : Int) < (p.x.T.length : Int) := by omega
    go_wp2_with fail
    go_ret
    exact ⟨false, rfl, by simp, HB1.out⟩
  have i5 : ¬ (6 : Int) < (p.x.T.length : Int) := by omega
  by_cases k6 : 6 < p.x.B.length
  · have i6 : (6 : Int) < (p.x.B.length : Int) := by omega
    go_wp2_with fail
    go_ret
    exact ⟨false, rfl, by simp, HB1.out⟩
  have i6 : ¬ (6 : Int) < (p.x.B.length : Int) := by omega
  go_upto_region 3 with fail
  go_wp2_with fail
  clear c0 c1 c3 c7
  go_loopw [50] (fun iv wr => ∃ i : Nat, i ≤ p.x.wh.length ∧ iv = .int .i64 (i : Int) ∧ Hid (Below w.heap.size w wr)) (fun iv _ => p.x.wh.length - (intOf iv).toNat)
  case atStart => exact ⟨0, Nat.zero_le _, by go_num, HB1.out⟩
  case round =>
    obtain ⟨i, hi, rfl, HJ⟩ := hrel
    by_cases hlt : i < p.x.wh.length
    · have hii : (i : Int) < (p.x.wh.length : Int) := by omega
      obtain ⟨bb, oo, ha, -, -⟩ := HP.out.wn.at_ hlt
      have HIW : Hid (ERow eNd wr (some ⟨bb, oo, none⟩) p.x.wh) := by show ERow _ _ _ _; rw [← ha]; exact HP.out.wn.below HJ.out
      have HNI := Lib.hid (HP.out.nin _ (List.getElem_mem hlt))
      rw [ha]
      clear ha
      go_upto_region 6 with (first | (refine wpList_load_nd_at rfl (.tmp 52) rfl HIW.out hlt rfl ?_) | (refine wpList_alloc_nd rfl rfl ?_; intro W6 hb6 hz6 hB6) | (refine wpList_store_nd rfl rfl (.tmp 8) (.tmp 53) rfl wr.heap.size rfl p.x.wh[i] rfl hb6 ?_; intro W7 hb7 hg7))
      have HB7 := Lib.hid (below_of_grown (HJ.out.then hB6) hg7 HJ.out.size (Nat.le_trans HJ.out.size hB6.size))
      clear hb6 hz6 hB6 hg7 HIW
      generalize wr.heap.size = g7 at hb7 ⊢
      generalize p.x.wh[i] = n at hb7 HNI
      go_wp2_with (refine wpList_load_nd rfl (.tmp 8) rfl g7 rfl hb7 ?_)
      refine (show Calls _ _ #[n.v, .int .i64 60] _ _ from size17_any w n HNI.out W7 HB7.out 60).mono ?_
      rintro e W8 ⟨r, rfl, hB8⟩
      have HB8 := Lib.hid (HB7.out.then hB8)
      clear hB8 hb7
      by_cases hr : 60 < r
      · go_wp2_with fail
        go_ret
        exact ⟨false, rfl, by simp, HB8.out⟩
      · go_wp2_with fail
        go_roundw
        case rel => exact ⟨i + 1, by omega, by go_num, HB8.out⟩
        case measure => simp [intOf]; omega
    · have hii : ¬ (i : Int) < (p.x.wh.length : Int) := by omega
      go_upto_region 9 with fail
      go_wp2_with fail
      go_loopw [60] (fun iv wr => ∃ i : Nat, i ≤ S.length ∧ iv = .int .i64 (i : Int) ∧ Hid ((∀ t ∈ S.take i, t.cols.length ≤ 20 ∧ ∀ c ∈ t.cols, c.b.length ≤ 20) ∧ Below w.heap.size w wr)) (fun iv _ => S.length - (intOf iv).toNat)
      case atStart => exact ⟨0, Nat.zero_le _, by go_num, by simp, HJ.out⟩
      case round =>
        obtain ⟨i, hi, rfl, HJ⟩ := hrel
        by_cases hlt : i < S.length
        · have hii : (i : Int) < (S.length : Int) := by omega
          obtain ⟨bb, oo, ha, -, -⟩ := HS.out.at_ hlt
          have HIW : Hid (ERow eStt wr (some ⟨bb, oo, none⟩) S) := by show ERow _ _ _ _; rw [← ha]; exact HS.out.below HJ.out.2
          have HTI := Lib.hid (HSR.out _ (List.getElem_mem hlt))
          have HTK : Hid (S.take (i + 1) = S.take i ++ [S[i]]) := List.take_succ_eq_append_getElem hlt
          rw [ha]
          clear ha
          obtain ⟨t, ht⟩ : ∃ t, S[i] = t := ⟨_, rfl⟩
          have HT := Lib.hid ht
          rw [ht] at HTI HTK
          clear ht
          go_upto_region 12 with (first | (refine wpList_load_stt_at rfl (.tmp 62) rfl HIW.out hlt t HT.out rfl ?_) | (refine wpList_alloc_stt rfl rfl ?_; intro W6 hb6 hz6 hB6) | (refine wpList_store_stt rfl rfl (.tmp 10) (.tmp 63) rfl wr.heap.size rfl t rfl hb6 ?_; intro W7 hb7 hg7))
          have HB7 := Lib.hid (below_of_grown (HJ.out.2.then hB6) hg7 HJ.out.2.size (Nat.le_trans HJ.out.2.size hB6.size))
          clear hb6 hz6 hB6 hg7 HIW
          generalize wr.heap.size = g7 at hb7 ⊢
          have tl : t.cols.length ≤ 9223372036854775807 := by have := HTI.out.2.2; unfold maxLen at this; omega
          obtain ⟨-, t1, -⟩ := Blk.c2 hb7
          by_cases h20 : 20 < t.cols.length
          · have i20 : (20 : Int) < (t.cols.length : Int) := by omega
            go_wp2_with fail
            go_ret
            exact ⟨false, rfl, by simp, HB7.out⟩
          · have i20 : ¬ (20 : Int) < (t.cols.length : Int) := by omega
            go_upto_region 14 with fail
            go_wp2_with fail
            clear t1 hb7
            go_loopw [71] (fun jv wq => ∃ j : Nat, j ≤ t.cols.length ∧ jv = .int .i64 (j : Int) ∧ Hid ((∀ c ∈ t.cols.take j, c.b.length ≤ 20) ∧ Below w.heap.size w wq)) (fun jv _ => t.cols.length - (intOf jv).toNat)
            case atStart => exact ⟨0, Nat.zero_le _, by go_num, by simp, HB7.out⟩
            case round =>
              obtain ⟨j, hj, rfl, HK⟩ := hrel
              by_cases hjt : j < t.cols.length
              · have hji : (j : Int) < (t.cols.length : Int) := by omega
                obtain ⟨b2, o2, ha, -, -⟩ := HTI.out.1.at_ hjt
                have HIC : Hid (ERow eCs wr (some ⟨b2, o2, none⟩) t.cols) := by show ERow _ _ _ _; rw [← ha]; exact HTI.out.1.below HK.out.2
                have HCI := Lib.hid (HTI.out.2.1 _ (List.getElem_mem hjt))
                have HTJ : Hid (t.cols.take (j + 1) = t.cols.take j ++ [t.cols[j]]) := List.take_succ_eq_append_getElem hjt
                rw [ha]
                clear ha
                obtain ⟨c, hc⟩ : ∃ c, t.cols[j] = c := ⟨_, rfl⟩
                have HC := Lib.hid hc
                rw [hc] at HCI HTJ
                clear hc
                go_upto_region 17 with (first | (refine wpList_load_cs_is rfl (.tmp 73) rfl HIC.out hjt c HC.out rfl ?_) | (refine wpList_alloc_cs rfl rfl ?_; intro W6 hb6 hz6 hB6) | (refine wpList_store_cs rfl rfl (.tmp 12) (.tmp 74) rfl wr.heap.size rfl c rfl hb6 ?_; intro W7 hb7 hg7))
                have HB8 := Lib.hid (below_of_grown (HK.out.2.then hB6) hg7 HK.out.2.size (Nat.le_trans HK.out.2.size hB6.size))
                clear hb6 hz6 hB6 hg7 HIC
                generalize wr.heap.size = g8 at hb7 ⊢
                have cl : c.b.length ≤ 9223372036854775807 := by have := HCI.out.2; unfold maxLen at this; omega
                have q2 := hb7.cell 2
                simp only [Cs.cells, List.getElem?_cons_zero, List.getElem?_cons_succ] at q2
                by_cases h2 : 20 < c.b.length
                · have i2 : (20 : Int) < (c.b.length : Int) := by omega
                  go_wp2_with fail
                  go_ret
                  exact ⟨false, rfl, by simp, HB8.out⟩
                · have i2 : ¬ (20 : Int) < (c.b.length : Int) := by omega
                  go_wp2_with fail
                  go_roundw
                  case rel =>
                    refine ⟨j + 1, by omega, by go_num, ?_, HB8.out⟩
                    intro u hu
                    rw [HTJ.out] at hu
                    rcases List.mem_append.1 hu with hu | hu
                    · exact HK.out.1 u hu
                    · rw [List.mem_singleton.1 hu]; omega
                  case measure => simp [intOf]; omega
              · have hji : ¬ (j : Int) < (t.cols.length : Int) := by omega
                have HALL : Hid (∀ c ∈ t.cols, c.b.length ≤ 20) := by
                  have := HK.out.1
                  rw [List.take_of_length_le (by omega)] at this
                  exact this
                go_wp2_with fail
                go_roundw
                case rel =>
                  refine ⟨i + 1, by omega, by go_num, ?_, HK.out.2⟩
                  intro u hu
                  rw [HTK.out] at hu
                  rcases List.mem_append.1 hu with hu | hu
                  · exact HJ.out.1 u hu
                  · rw [List.mem_singleton.1 hu]; exact ⟨by omega, HALL.out⟩
                case measure => simp [intOf]; omega
        · have hii : ¬ (i : Int) < (S.length : Int) := by omega
          have HSS : Hid (∀ t ∈ S, t.cols.length ≤ 20 ∧ ∀ c ∈ t.cols, c.b.length ≤ 20) := by
            have := HJ.out.1
            rw [List.take_of_length_le (by omega)] at this
            exact this
          go_upto_region 21 with fail
          go_wp2_with fail
          go_loopw [83] (fun iv wr => ∃ i : Nat, i ≤ D.length ∧ iv = .int .i64 (i : Int) ∧ Hid ((∀ d ∈ D.take i, d.cols.length ≤ 6) ∧ Below w.heap.size w wr)) (fun iv _ => D.length - (intOf iv).toNat)
          case atStart => exact ⟨0, Nat.zero_le _, by go_num, by simp, HJ.out.2⟩
          case round =>
            obtain ⟨i, hi, rfl, HJ⟩ := hrel
            by_cases hlt : i < D.length
            · have hii : (i : Int) < (D.length : Int) := by omega
              obtain ⟨bb, oo, ha, -, -⟩ := HD.out.at_ hlt
              have HIW : Hid (ERow eDf wr (some ⟨bb, oo, none⟩) D) := by show ERow _ _ _ _; rw [← ha]; exact HD.out.below HJ.out.2
              have HDI := Lib.hid (HDR.out _ (List.getElem_mem hlt))
              have HTK : Hid (D.take (i + 1) = D.take i ++ [D[i]]) := List.take_succ_eq_append_getElem hlt
              rw [ha]
              clear ha
              obtain ⟨d, hd⟩ : ∃ d, D[i] = d := ⟨_, rfl⟩
              have HDD := Lib.hid hd
              rw [hd] at HDI HTK
              clear hd
              go_upto_region 24 with (first | (refine wpList_load_df_at rfl (.tmp 85) rfl HIW.out hlt d HDD.out rfl ?_) | (refine wpList_alloc_df rfl rfl ?_; intro W6 hb6 hz6 hB6) | (refine wpList_store_df rfl rfl (.tmp 14) (.tmp 86) rfl wr.heap.size rfl d rfl hb6 ?_; intro W7 hb7 hg7))
              have HB7 := Lib.hid (below_of_grown (HJ.out.2.then hB6) hg7 HJ.out.2.size (Nat.le_trans HJ.out.2.size hB6.size))
              clear hb6 hz6 hB6 hg7 HIW
              generalize wr.heap.size = g7 at hb7 ⊢
              have dl : d.cols.length ≤ 9223372036854775807 := by have := HDI.out.2.2; unfold maxLen at this; omega
              have t1 := hb7.cell 1
              simp only [Df.cells, List.getElem?_cons_zero, List.getElem?_cons_succ] at t1
              by_cases h6 : 6 < d.cols.length
              · have i6' : (6 : Int) < (d.cols.length : Int) := by omega
                go_wp2_with fail
                go_ret
                exact ⟨false, rfl, by simp, HB7.out⟩
              · have i6' : ¬ (6 : Int) < (d.cols.length : Int) := by omega
                go_wp2_with fail
                go_roundw
                case rel =>
                  refine ⟨i + 1, by omega, by go_num, ?_, HB7.out⟩
                  intro u hu
                  rw [HTK.out] at hu
                  rcases List.mem_append.1 hu with hu | hu
                  · exact HJ.out.1 u hu
                  · rw [List.mem_singleton.1 hu]; omega
                case measure => simp [intOf]; omega
            · have hii : ¬ (i : Int) < (D.length : Int) := by omega
              have HDDD : Hid (∀ d ∈ D, d.cols.length ≤ 6) := by
                have := HJ.out.1
                rw [List.take_of_length_le (by omega)] at this
                exact this
              go_wp2_with fail
              go_ret
              exact ⟨true, rfl, fun _ => ⟨by omega, by omega, by omega, by omega, by omega, by omega, HSS.out, HDDD.out⟩, HJ.out.2⟩
end Go.Proofs.Ytjdffhonljhpcaa
end

section
/-
  The contract of the planner's laws' lives.
-/
namespace Go.Proofs.Ytjdffhonljhpcaa
set_option linter.unusedSimpArgs false
set_option linter.unusedVariables false
open Go.RowKit

def Qp.nul : Qp := ⟨⟨[], [], 0, [], false, [], [], [], []⟩, none, 0, none, 0, none, 0, none, [], 0, none, [], 0, none, 0, 0⟩
theorem qp_zero (W : World) : (zeroValue 50).run Try.prog W = .ok Qp.nul.v W := (zero_of_info (P := Try.prog) (t := 50) (v := Qp.nul.v) (n := 9) (by kernel_rfl)).1 W
section
variable {w : World} {ops : Array Oper} {rest : List Oper} {o : Oper} {a : Act} {Q : Exit → Act → World → Prop}
theorem wpList_alloc_qp (hgd : o.guard = none) (hop : o.op = .alloc 50)
    (h : ∀ W, Blk W w.heap.size 50 Qp.nul.cells → w.heap.size + 1 ≤ W.heap.size → Below w.heap.size w W → wpList Try.prog ops Q rest (a.put o.dst (.pointer (some ⟨w.heap.size, 0, none⟩))) W) : wpList Try.prog ops Q (o :: rest) a w :=
  wpList_alloc_z hgd 50 hop (qp_zero _) fun W hW => by
    obtain ⟨h1, h2, h3⟩ := fresh1 (a := Qp.nul.cells) hW
    exact h W h1 h2 h3
theorem wpList_store_qp (hgd : o.guard = none) (hod : o.dst = none) (x y : Operand) (hop : o.op = .store 50 x y) (g : Nat) (hx : a.eval x = .pointer (some ⟨g, 0, none⟩)) (b : Qp) (hy : a.eval y = b.v) {T0 : TypeId} {old : Qp} (hb : Blk w g T0 old.cells)
    (h : ∀ W, Blk W g T0 b.cells → w.grownBy W (some g) → wpList Try.prog ops Q rest a W) : wpList Try.prog ops Q (o :: rest) a w :=
  wpList_store_blk hgd hod 50 x y hop g hx b.cells hy hb rfl qp_info (by
    intro u hu
    simp [Qp.cells] at hu
    rcases hu with rfl | rfl | rfl | rfl | rfl | rfl | rfl | rfl | rfl <;> rfl) h
end
namespace L17
def na : Nd := .mk 2 [] Key.nul 0 false 1 none [] 0
def nb : Nd := .mk 1 [] ⟨1, 5, 0, []⟩ 0 false 0 none [] 0
def nn (g : Nat) : Nd := .mk 7 [61] Key.nul 0 false 0 (some ⟨g, 0, none⟩) [na, nb] 2
def ca : Cs := ⟨500, 0, none, [], 0⟩
def px (gn gd : Nat) : Pn.PX := ⟨[0], [0], 2, [nn gn], false, [], [⟨0, some ⟨gd, 0, none⟩, [0], 1, false⟩], [1000, 1000], [ca, Cs.nul]⟩
def qp (x : Pn.PX) (gt gb gw : Nat) : Qp := ⟨x, some ⟨gt, 0, none⟩, 1, some ⟨gb, 0, none⟩, 1, some ⟨gw, 0, none⟩, 1, none, [], 0, none, [], 0, none, 0, -1⟩
def st (g : Nat) : Stt := ⟨1000, some ⟨g, 0, none⟩, [ca, Cs.nul], 2⟩
theorem ok (gn gd : Nat) : Pn.chOk (px gn gd) 1 = true := by kernel_rfl
theorem op (gn gd : Nat) : (Pn.choose (px gn gd)).op = 2 := by kernel_rfl
theorem cost (gn gd : Nat) : (Pn.choose (px gn gd)).cost = 52 := by kernel_rfl
theorem rows (gn gd : Nat) : (Pn.choose (px gn gd)).rows = 2 := by kernel_rfl
theorem eq (gn gd : Nat) : (Pn.choose (px gn gd)).eq.length = 1 := by kernel_rfl
theorem fill (gn gd g : Nat) : Pn.fillT (px gn gd) 0 [st g] ([], []) = ((px gn gd).rows, (px gn gd).cols) := by kernel_rfl
end L17
namespace Pm
theorem e_rows (p : Pm) : p.e.rows = p.rows := by cases p; rfl
theorem e_eql (p : Pm) : p.e.eq = p.eq := by cases p; rfl
end Pm
set_option maxRecDepth 100000 in
set_option maxHeartbeats 8000000 in
theorem plives_any (w : World) : Calls Try.prog 17 #[] w fun e w' => e = .returned (.bool true) ∧ Below w.heap.size w w' := by
  go_enter Try.func17, Try.ntmps17
  go_upto_region 2 with (first | (refine wpList_alloc_nd rfl rfl ?_; intro W1 hb1 hz1 hB1) | (refine wpList_store_nd rfl rfl (.tmp 1) (.tmp 6) rfl w.heap.size rfl L17.na rfl hb1 ?_; intro W2 hb2 hg2))
  have HB2 := Lib.hid (below_of_grown hB1 hg2 (Nat.le_refl _) hB1.size)
  clear hb1 hz1 hB1 hg2
  generalize w.heap.size = g1 at hb2 ⊢
  go_upto_region 3 with (first
    | (generalize hWa : ((World.alloc W2 (.cells _ _)).alloc (.cells _ _)) = W3; obtain ⟨ba3, bb3, hz3, hB3⟩ := fresh2 hWa; clear hWa; refine wpList_load_nd rfl (.tmp 1) rfl g1 rfl (hb2.below hB3) ?_)
    | (generalize hWb : ((World.alloc W3 (.cells _ _)).alloc (.cells _ _)) = W4; obtain ⟨ba4, bb4, hz4, hB4⟩ := fresh2 hWb; clear hWb; refine wpList_alloc_qp rfl rfl ?_; intro W5 hb5 hz5 hB5)
    | (refine wpList_store_qp rfl rfl (.tmp 2) (.tmp 15) rfl _ rfl (L17.qp (L17.px W3.heap.size 0) W2.heap.size (W2.heap.size + 1) (W3.heap.size + 1)) rfl hb5 ?_; intro W6 hb6 hg6))
  have z2 := HB2.out.size
  have HB6 := Lib.hid (below_of_grown (((HB2.out.then hB3).then hB4).then hB5) hg6 (by omega) (by omega))
  have HT6 : Hid (Blk W6 W2.heap.size 3 [.int .i64 0] ∧ Blk W6 (W2.heap.size + 1) 3 [.int .i64 0] ∧ Blk W6 W3.heap.size 63 (L17.na.cells ++ L17.nb.cells) ∧ Blk W6 (W3.heap.size + 1) 63 (L17.nn W3.heap.size).cells) := by
    refine ⟨((ba3.below hB4).below hB5).grown hg6 ?_, ((bb3.below hB4).below hB5).grown hg6 ?_, (ba4.below hB5).grown hg6 ?_, (bb4.below hB5).grown hg6 ?_⟩ <;> (simp only [ne_eq, Option.some.injEq]; omega)
  have HQ6 := Lib.hid hb6
  have hz6 : W2.heap.size < W6.heap.size := by have := hb6.lt; omega
  clear hb2 ba3 bb3 hz3 hB3 ba4 bb4 hz4 hB4 hb5 hz5 hB5 hb6 hg6 z2
  obtain ⟨g4, hg4⟩ : ∃ g, W4.heap.size = g := ⟨_, rfl⟩
  obtain ⟨gt, hgt⟩ : ∃ g, W2.heap.size = g := ⟨_, rfl⟩
  obtain ⟨gn, hgn⟩ : ∃ g, W3.heap.size = g := ⟨_, rfl⟩
  rw [hg4] at HQ6
  rw [hgt, hgn] at HQ6 HT6
  rw [hg4]
  clear hg4 hgt hgn hz6 HB2
  go_upto_region 4 with (first
    | (generalize hWc : (World.alloc W6 (.cells _ _)) = W7; obtain ⟨ba7, hz7, hB7⟩ := fresh1 hWc; clear hWc; refine wpList_alloc_stt rfl rfl ?_; intro W8 hb8 hz8 hB8)
    | (refine wpList_store_stt rfl rfl (.tmp 3) (.tmp 19) rfl _ rfl (L17.st W6.heap.size) rfl hb8 ?_; intro W9 hb9 hg9))
  have z6 := HB6.out.size
  have hB69 : Below W6.heap.size W6 W9 := below_of_grown (hB7.then hB8) hg9 (by omega) (by omega)
  have HB9 := Lib.hid (HB6.out.then hB69)
  have HT9 : Hid (Blk W9 gt 3 [.int .i64 0] ∧ Blk W9 (gt + 1) 3 [.int .i64 0] ∧ Blk W9 gn 63 (L17.na.cells ++ L17.nb.cells) ∧ Blk W9 (gn + 1) 63 (L17.nn gn).cells) :=
    ⟨HT6.out.1.below hB69, HT6.out.2.1.below hB69, HT6.out.2.2.1.below hB69, HT6.out.2.2.2.below hB69⟩
  have HQ9 := Lib.hid (HQ6.out.below hB69)
  have HC9 : Hid (Blk W9 W6.heap.size 31 (L17.ca.cells ++ Cs.nul.cells)) := (ba7.below hB8).grown hg9 (by simp only [ne_eq, Option.some.injEq]; omega)
  have HS9 := Lib.hid hb9
  clear HT6 HQ6 HB6 ba7 hz7 hB7 hb8 hz8 hB8 hg9 z6 hB69 hb9
  obtain ⟨s0, s1, -⟩ := Blk.c2 HS9.out
  obtain ⟨gc, hgc⟩ : ∃ g, W6.heap.size = g := ⟨_, rfl⟩
  obtain ⟨gs, hgs⟩ : ∃ g, W7.heap.size = g := ⟨_, rfl⟩
  rw [hgs] at s0 s1
  rw [hgc] at HC9 s1
  rw [hgs]
  have s1 : W9.cell? ⟨gs, 1, none⟩ = some (.slice (some ⟨gc, 0, none⟩) 2 2) := s1
  have s0 : W9.cell? ⟨gs, 0, none⟩ = some (.int .i64 1000) := s0
  clear hgc hgs HS9
  go_wp2_with (refine wpList_load_qp0 rfl (.tmp 2) rfl g4 rfl HQ9.out ?_)
  generalize hW10 : (((World.alloc W9 (.cells _ _)).alloc (.cells _ _)).alloc (.cells _ _)) = W10
  obtain ⟨ba10, bb10, bc10, hz10, hB10⟩ := fresh3 hW10
  clear hW10
  have HQ : Hid (QpIn W10 (L17.qp (L17.px gn (W9.heap.size + 1)) gt (gt + 1) (gn + 1))) := by
    have hna : NodeIn W10 L17.na := NodeIn.mk ERow.nil (by intro m hm; cases hm) Ev.nul_ok (Nat.zero_le _) ⟨by decide, by decide⟩ ⟨by decide, by decide⟩ (Nat.le_refl _) (Nat.zero_le _)
    have hnb : NodeIn W10 L17.nb := NodeIn.mk ERow.nil (by intro m hm; cases hm) ⟨by decide, by decide, by decide, by decide, by decide⟩ (Nat.zero_le _) ⟨by decide, by decide⟩ ⟨by decide, by decide⟩ (Nat.le_refl _) (Nat.zero_le _)
    have hnn : NodeIn W10 (L17.nn gn) := NodeIn.mk (Blk.row eNd (HT9.out.2.2.1.below hB10) [L17.na, L17.nb] rfl (by simp [maxLen])) (by
      intro m hm
      rcases List.mem_cons.1 hm with rfl | hm
      · exact hna
      · rw [List.mem_singleton.1 hm]; exact hnb) Ev.nul_ok (Nat.zero_le _) (show Ev.inB 7 from ⟨by decide, by decide⟩) (show Ev.inB 0 from ⟨by decide, by decide⟩) (by show 2 ≤ 2; decide) (by show 2 ≤ maxLen; decide)
    exact ⟨Blk.row eInt (HT9.out.1.below hB10) [0] rfl (by simp [maxLen]), (by intro n hn; rw [List.mem_singleton.1 hn]; exact ⟨by decide, by decide⟩), (by show 1 ≤ 1000000; decide),
      Blk.row eInt (HT9.out.2.1.below hB10) [0] rfl (by simp [maxLen]), (by intro n hn; rw [List.mem_singleton.1 hn]; exact ⟨by decide, by decide⟩), (by show 1 ≤ 1000000; decide), (show Ev.inB 2 from ⟨by decide, by decide⟩),
      Blk.row eNd (HT9.out.2.2.2.below hB10) [L17.nn gn] rfl (by simp [maxLen]), (by intro n hn; rw [List.mem_singleton.1 hn]; exact hnn), (by show 1 ≤ 1000000; decide), ERow.nil, (by intro n hn; cases hn), Nat.zero_le _⟩
  have HS : Hid (SttsIn W10 (some ⟨W9.heap.size, 0, none⟩) [L17.st gc]) :=
    ⟨Blk.row eStt ba10 [L17.st gc] rfl (by simp [maxLen]), (by
      intro t ht
      rw [List.mem_singleton.1 ht]
      refine ⟨Blk.row eCs (HC9.out.below hB10) [L17.ca, Cs.nul] rfl (by simp [maxLen]), ?_, (by show 2 ≤ 100; decide), ?_⟩
      · intro x hx
        rcases List.mem_cons.1 hx with rfl | hx
        · exact ERow.nil
        · rw [List.mem_singleton.1 hx]; exact ERow.nil
      · intro x hx
        rcases List.mem_cons.1 hx with rfl | hx
        · exact Nat.zero_le _
        · rw [List.mem_singleton.1 hx]; exact Nat.zero_le _), (by show 1 ≤ 1000; decide)⟩
  have HD : Hid (DfsIn W10 (some ⟨W9.heap.size + 1 + 1, 0, none⟩) [⟨0, some ⟨W9.heap.size + 1, 0, none⟩, [0], 1, false⟩]) :=
    ⟨Blk.row eDf bc10 [⟨0, some ⟨W9.heap.size + 1, 0, none⟩, [0], 1, false⟩] rfl (by simp [maxLen]), (by intro d hd; rw [List.mem_singleton.1 hd]; exact Blk.row eInt bb10 [0] rfl (by simp [maxLen])), (by intro d hd; rw [List.mem_singleton.1 hd]; show 1 ≤ 1000; decide),
      (by intro d hd c hc; rw [List.mem_singleton.1 hd] at hc; rw [List.mem_singleton.1 hc]; exact ⟨by decide, by decide⟩), (by intro d hd; rw [List.mem_singleton.1 hd]; exact ⟨Nat.le_refl 1, by show 1 ≤ maxLen; decide⟩), (by show 1 ≤ 1000; decide)⟩
  have HB10 := Lib.hid (HB9.out.then hB10)
  have HC := Lib.hid (plchoose_any W10 _ HQ.out (by show 1 ≤ 1000; decide) _ [L17.st gc] 1 HS.out _ 1 HD.out (L17.fill _ _ _))
  clear ba10 bb10 bc10 hz10 hB10 HT9 HQ9 HC9 HB9 s0 s1 HQ HS HD
  refine (show Calls _ _ _ _ _ from HC.out).mono ?_
  rintro e W11 ⟨m, er, rfl, hB, -, hc⟩
  obtain ⟨rfl, he⟩ : er = 0 ∧ m.e = Pn.choose (L17.px gn (W9.heap.size + 1)) := by
    rcases hc with ⟨-, h1, h2⟩ | ⟨h1, -⟩
    · exact ⟨h1, h2⟩
    · exact absurd (h1.symm.trans (L17.ok _ _)) (by decide)
  have HOP : Hid (m.op = 2 ∧ m.cost = 52 ∧ m.rows = 2 ∧ m.eq.length = 1) := by
    refine ⟨?_, ?_, ?_, ?_⟩
    · rw [← Pm.e_op, he]; exact L17.op _ _
    · rw [← Pm.e_cost, he]; exact L17.cost _ _
    · rw [← Pm.e_rows, he]; exact L17.rows _ _
    · rw [← Pm.e_eql, he]; exact L17.eq _ _
  have HB11 := Lib.hid (HB10.out.then hB)
  clear hB hc he HC HB10
  go_upto_region 5 with (first | (refine wpList_alloc_pm rfl rfl ?_; intro W12 hb12 hz12 hB12) | (refine wpList_store_pm rfl rfl (.tmp 4) (.tmp 28) rfl _ rfl m rfl hb12 ?_; intro W13 hb13 hg13))
  have z11 := HB11.out.size
  have HB13 := Lib.hid (below_of_grown (HB11.out.then hB12) hg13 (by omega) (by omega))
  obtain ⟨p0, -, -, p3, -, -, p6, p7, -⟩ := Blk.pm hb13
  rw [HOP.out.1] at p0
  rw [HOP.out.2.1] at p6
  rw [HOP.out.2.2.1] at p7
  rw [HOP.out.2.2.2] at p3
  clear hb12 hz12 hB12 hb13 hg13 z11 HB11
  generalize W11.heap.size = gp at p0 p3 p6 p7 ⊢
  go_wp2_with fail
  go_ret
  exact ⟨rfl, HB13.out⟩
end Go.Proofs.Ytjdffhonljhpcaa
end

section
/-
  Choose as the planner's laws call it: with small parts, and some indexes.
-/
namespace Go.Proofs.Ytjdffhonljhpcaa
set_option linter.unusedSimpArgs false
set_option linter.unusedVariables false
open Go.RowKit

namespace Pn
/-- What is known, with what the tables tell. -/
def xOf (x : PX) (S : List Stt) : PX := { x with rows := (fillT x 0 S ([], [])).1, cols := (fillT x 0 S ([], [])).2 }
theorem b_eq {x y : PX} (hB : y.B = x.B) (f : Nat) : b y f = b x f := by unfold b; rw [hB]
theorem endN_eq {x y : PX} (hB : y.B = x.B) (hW : y.W = x.W) (f : Nat) : endN y f = endN x f := by unfold endN; rw [b_eq hB, hB, hW]
theorem fillC_eq {x y : PX} (hB : y.B = x.B) (t : Stt) (f : Nat) : ∀ (k : Nat) (at_ : Int) (o : List Int × List Cs), fillC y t f k at_ o = fillC x t f k at_ o
  | 0, _, _ => rfl
  | k + 1, at_, o => by
    show fillC y t f k (at_ + 1) _ = fillC x t f k (at_ + 1) _
    rw [fillC_eq hB t f k, b_eq hB]
theorem fillT_eq {x y : PX} (hB : y.B = x.B) (hW : y.W = x.W) : ∀ (S : List Stt) (f : Nat) (o : List Int × List Cs), fillT y f S o = fillT x f S o
  | [], _, _ => rfl
  | t :: S, f, o => by
    show fillT y (f + 1) S (fillC y t f (endN y f - b y f).toNat (b y f) o) = fillT x (f + 1) S (fillC x t f (endN x f - b x f).toNat (b x f) o)
    rw [fillT_eq hB hW S, fillC_eq hB, b_eq hB, endN_eq hB hW]
theorem mayF_wd (x : PX) (D : List Df) : ∀ k i, mayF (wd x D) i k = mayF x i k
  | 0, _ => rfl
  | k + 1, i => by
    show (decide (b x i < endN x i) && mayF (wd x D) (i + 1) k) = _
    rw [mayF_wd x D k]
    rfl
theorem may_wd (x : PX) (D : List Df) : may (wd x D) = may x := by
  unfold may
  rw [show (wd x D).T = x.T from rfl, mayF_wd]
  rfl
theorem chOk_wd (x : PX) (D : List Df) (n : Nat) (h : D.length ≤ 64) : chOk (wd x D) n = chOk (wd x []) n := by
  unfold chOk
  rw [may_wd, may_wd, sorts_wd, sorts_wd]
  simp only [asks_wd]
  show (_ && decide (D.length ≤ 64) && _ && _) = (_ && decide (([] : List Df).length ≤ 64) && _ && _)
  rw [decide_eq_true h]
  rfl
theorem chOk_sh {x : PX} {n : Nat} (h : chOk x n = true) : Sh x := by
  unfold chOk at h
  simp only [Bool.and_eq_true] at h
  exact sh_of_may h.1.1.1.1
end Pn
/-- The query with all that is known, and some indexes. -/
def Qp.full (p : Qp) (S : List Stt) (E : List Df) : Qp := { p with x := Pn.wd (Pn.xOf p.x S) E }
theorem qp_full {w : World} {p : Qp} (hp : QpRaw w p) {S : List Stt} {D : List Df} (hs : SmallP p.x S D) (E : List Df) : QpIn w (p.full S E) :=
  ⟨hp.t, hp.tin, by have := hs.t; show p.x.T.length ≤ 1000000; omega, hp.b, hp.bin, by have := hs.b; show p.x.B.length ≤ 1000000; omega, hp.win, hp.wn, hp.nin, by have := hs.wh; show p.x.wh.length ≤ 1000000; omega, hp.o, hp.oin, by have := hs.ord; show p.x.ord.length ≤ 1000000; omega⟩
theorem stts_of {w : World} {sa : Option Addr} {S : List Stt} (hS : ERow eStt w sa S) (hSr : ∀ t ∈ S, SttRaw w t) {x : Pn.PX} {D : List Df} (hs : SmallP x S D) : SttsIn w sa S :=
  ⟨hS, fun t ht => ⟨(hSr t ht).1, fun c hc => ((hSr t ht).2.1 c hc).1, by have := (hs.sc t ht).1; omega, fun c hc => by have := (hs.sc t ht).2 c hc; omega⟩, by have := hs.s; omega⟩
theorem dfs_of {w : World} {A : Option Addr} {D E : List Df} (hE : ERow eDf w A E) (hr : ∀ d ∈ D, DfRaw w d) (hsub : ∀ d ∈ E, d ∈ D) {x : Pn.PX} {S : List Stt} (hs : SmallP x S D) (hl : E.length ≤ 1000) : DfsIn w A E :=
  ⟨hE, fun d hd => (hr d (hsub d hd)).1, fun d hd => by have := hs.dc d (hsub d hd); omega, fun d hd => (hr d (hsub d hd)).2.1, fun d hd => (hr d (hsub d hd)).2.2, hl⟩
/-- What a small query is answered. -/
theorem plcall_any (w : World) (p : Qp) (hp : QpRaw w p) (sa : Option Addr) (S : List Stt) (sc : Nat) (hS : ERow eStt w sa S) (hSr : ∀ t ∈ S, SttRaw w t) (D : List Df) (hDr : ∀ d ∈ D, DfRaw w d) (hs : SmallP p.x S D)
    (W : World) (hB : Below w.heap.size w W) (A : Option Addr) (E : List Df) (c n : Nat) (hE : ERow eDf W A E) (hsub : ∀ d ∈ E, d ∈ D) (hn : E.length = n) (hl : n ≤ 64) :
    Calls Try.prog 19 #[p.v, .slice sa S.length sc, .slice A n c] W (RetCh W (p.full S E) S.length) := by
  subst hn
  exact plchoose_any W (p.full S E) (qp_full (hp.below hB) hs E) (by have := hs.wh; show p.x.wh.length ≤ 1000; omega) sa S sc (stts_of (hS.below hB) (fun t ht => (hSr t ht).below hB) hs) A c
    (dfs_of hE (fun d hd => (hDr d hd).below hB) hsub hs (by show E.length ≤ 1000; omega)) ((Pn.fillT_eq (x := p.x) (y := (p.full S E).x) rfl rfl S 0 ([], [])).trans rfl)
end Go.Proofs.Ytjdffhonljhpcaa
end

section
/-
  The walk of PlanMore.
-/
namespace Go.Proofs.Ytjdffhonljhpcaa
set_option linter.unusedSimpArgs false
set_option linter.unusedVariables false
open Go.RowKit

namespace Pn
def costN (x : PX) (D : List Df) (i : Nat) : Int := (choose (wd x (D.take i))).cost
def wasN (x : PX) (D : List Df) : Nat → Int
  | 0 => -1
  | i + 1 => costN x D i
theorem costN_more {x : PX} (hs : Sh x) (D : List Df) (i : Nat) : costN x D (i + 1) ≤ costN x D i :=
  choose_more hs.t1 (by have := hs.t4; omega) hs.bl fun d hd => by
    rw [List.mem_take_iff_getElem] at hd ⊢
    obtain ⟨k, hk, e⟩ := hd
    exact ⟨k, by omega, e⟩
theorem costN_ok {x : PX} (hs : Sh x) (D : List Df) (i : Nat) : Okp (choose (wd x (D.take i))) := choose_ok (x := wd x (D.take i)) hs.t1 (by have := hs.t4; show x.T.length < 5; omega)
theorem sh_wd {x : PX} {D : List Df} (h : Sh (wd x D)) : Sh x := ⟨h.t1, h.t4, h.bl, h.lt⟩
/-- Is a cost as the law wants it? -/
theorem was_ok {x : PX} (hs : Sh x) (D : List Df) (i : Nat) : wasN x D i = -1 ∧ i = 0 ∨ 0 ≤ wasN x D i ∧ costN x D i ≤ wasN x D i := by
  cases i with
  | zero => exact .inl ⟨rfl, rfl⟩
  | succ i => exact .inr ⟨(costN_ok hs D i).1, costN_more hs D i⟩
end Pn
set_option maxRecDepth 100000 in
set_option maxHeartbeats 8000000 in
theorem planMore_walk (w : World) (v0 : Value) (h0 : QpW w v0) (v1 : Value) (h1 : SttsW w v1) (v2 : Value) (h2 : DfsW w v2) :
    Calls Try.prog 6 #[v0, v1, v2] w fun e w' => e = .returned (.bool true) ∧ Below w.heap.size w w' := by
  obtain ⟨p, rfl, hp⟩ := h0
  obtain ⟨sa, sc, S, rfl, hS, hSr, hSl, hSm⟩ := h1
  obtain ⟨da, dc, D, rfl, hD, hDr, hDl, hDm⟩ := h2
  have HP := Lib.hid hp
  have HS := Lib.hid hS
  have HSR := Lib.hid hSr
  have HD := Lib.hid hD
  have HDR := Lib.hid hDr
  have HSL := Lib.hid hSl
  have HDL := Lib.hid hDl
  have hl2 : D.length ≤ 9223372036854775807 := by unfold maxLen at hDm; omega
  have hdc : D.length ≤ dc := hDl
  have HSM := Lib.hid hSm
  have HDM := Lib.hid hDm
  clear hp hS hSr hSl hSm hD hDr hDl hDm
  go_enter Try.func6, Try.ntmps6
  go_upto_region 1 with (refine wpList_box_qp rfl (.tmp 0) rfl p rfl ?_; intro W1 hb1 hz1 hB1)
  have HB1 := Lib.hid hB1
  obtain ⟨g3, hg3⟩ : ∃ g, w.heap.size = g := ⟨_, rfl⟩
  have HG3 : Hid (w.heap.size ≤ g3) := by show _ ≤ _; omega
  rw [hg3] at hb1 ⊢
  clear hg3 hB1 hz1
  go_wp2_with fail
  refine (plives_any W1).mono ?_
  rintro e W2 ⟨rfl, hB⟩
  have hb2 := hb1.below hB
  have HB2 := Lib.hid (HB1.out.then hB)
  clear hB hb1
  obtain ⟨c0, c1, c2, c3, c4, c5, c6, c7, c8⟩ := Blk.qp9 (Blk.qp90 hb2)
  go_wp2_with fail
  refine (show Calls _ _ #[p.v, _, _] _ _ from small17_any W2 p (HP.out.below HB2.out) sa S sc (HS.out.below HB2.out) (fun t ht => (HSR.out t ht).below HB2.out) HSL.out HSM.out da D dc (HD.out.below HB2.out) (fun d hd => (HDR.out d hd).below HB2.out) HDL.out HDM.out).mono ?_
  rintro e W3 ⟨b, rfl, hb, hB⟩
  have HQ3 := Lib.hid (hb2.below hB)
  have HB3 := Lib.hid (HB2.out.then hB)
  have HSM3 := Lib.hid hb
  clear hB hb2 hb c0 c1 c2 c3 c4 c5 c6 c7 c8
  cases b with
  | false =>
    go_wp2_with fail
    refine (plives_any W3).mono ?_
    rintro e W9 ⟨rfl, hB⟩
    have HB9 := Lib.hid (HB3.out.then hB)
    clear hB
    go_wp2_with fail
    go_ret
    exact ⟨rfl, HB9.out⟩
  | true =>
    have HSS := Lib.hid (HSM3.out rfl)
    have hd12 := HSS.out.d
    obtain ⟨x, hx⟩ : ∃ x, Pn.xOf p.x S = x := ⟨_, rfl⟩
    have HX := Lib.hid hx
    clear hx
    go_upto_region 5 with fail
    go_loopw [28, 7] (fun iv wv wr => ∃ (i : Nat), i ≤ D.length + 1 ∧ iv = .int .i64 (i : Int) ∧ wv = .int .i64 (Pn.wasN x D i) ∧ Hid ((0 < i → Pn.chOk (Pn.wd x []) S.length = true) ∧ Below w.heap.size w wr ∧ Blk wr g3 50 p.cells)) (fun iv _ _ => D.length + 1 - (intOf iv).toNat)
    case atStart => exact ⟨0, Nat.zero_le _, by go_num, rfl, fun h => absurd h (by omega), HB3.out, HQ3.out⟩
    case round =>
      obtain ⟨i, hi, rfl, rfl, HJ⟩ := hrel
      have HBr := Lib.hid HJ.out.2.1
      have HQr := Lib.hid HJ.out.2.2
      by_cases hlt : i < D.length + 1
      · have hii : (i : Int) < (D.length : Int) + 1 := by omega
        have hile : i ≤ D.length := by omega
        have hidc : (i : Int) ≤ (dc : Int) := by omega
        go_upto_region 7 with fail
        obtain ⟨cc, hcc⟩ : ∃ cc, Pn.wasN x D i = cc := ⟨_, rfl⟩
        have HCC := Lib.hid hcc
        rw [hcc]
        clear hcc
        go_cut [9, 10] from 31 to 39 (fun v9 v10 wx => Hid (∃ (g : Nat) (m : Pm) (er : Int), v9 = .pointer (some ⟨g, 0, none⟩) ∧ v10 = .int .i64 er ∧ Blk wx g 56 m.cells ∧ Blk wx g3 50 p.cells ∧ Below w.heap.size w wx ∧ ((Pn.chOk (Pn.wd x (D.take i)) S.length = true ∧ er = 0 ∧ m.e = Pn.choose (Pn.wd x (D.take i))) ∨ (Pn.chOk (Pn.wd x (D.take i)) S.length = false ∧ er = 1))))
        case first =>
          have HBD := Lib.hid (HBr.out.then (Below.refl _ _).drewR)
          have hQD := HQr.out.drew
          have HTL : Hid ((D.take i).length = i) := by show _ = _; simp; omega
          have HSUB : Hid (∀ d ∈ D.take i, d ∈ D) := fun d hd => List.mem_of_mem_take hd
          have HCALL := Lib.hid (plcall_any w p HP.out sa S sc HS.out HSR.out D HDR.out HSS.out)
          refine wp_region_plan (.take 0 (.take 1 (.take 2 (.take 3 (.take 4 (.fork (.run 5 [] (.take 6 (.take 7 (.take 8 (.run 9 [6, 7, 8] (.run 10 [8] (.take 11 .fin))))))) (.run 9 [0, 1, 2, 3, 4] (.run 5 [] (.take 6 (.take 7 (.take 8 (.run 10 [8] (.take 11 .fin))))))))))))) (by kernel_rfl) (by kernel_rfl) (by kernel_rfl) (by kernel_rfl) ?_
          repeat' (first | (refine hZ _ _ ?_; clear hZ) | (refine hZ _ ?_; clear hZ) | (refine hZ ?_; clear hZ) | rw [again_nil] | rw [walk_fin] | ((first | rw [walk_take] | rw [walk_run] | rw [again_cons]); intro Z hZ; simp only [sel, List.getElem?_toArray, List.getElem?_cons_zero, List.getElem?_cons_succ]; go_wp2_with (first | (refine wpList_load_qp0 rfl (.tmp 3) rfl g3 rfl hQD ?_))))
          rw [walk_fork]
          refine ⟨?_, ?_⟩
          · repeat' (first | (refine hZ _ _ ?_; clear hZ) | (refine hZ _ ?_; clear hZ) | (refine hZ ?_; clear hZ) | rw [again_nil] | rw [walk_fin] | ((first | rw [walk_take] | rw [walk_run] | rw [again_cons]); intro Z hZ; simp only [sel, List.getElem?_toArray, List.getElem?_cons_zero, List.getElem?_cons_succ]; go_wp2_with (fail)))
            refine (HCALL.out wr.drew HBD.out da (D.take i) dc i ((HD.out.below HBD.out).take i) HSUB.out HTL.out (by omega)).mono ?_
            rintro e W5 ⟨m, er, rfl, hB5, -, hc⟩
            have hc : (Pn.chOk (Pn.wd (Pn.xOf p.x S) (D.take i)) S.length = true ∧ er = 0 ∧ m.e = Pn.choose (Pn.wd (Pn.xOf p.x S) (D.take i))) ∨ (Pn.chOk (Pn.wd (Pn.xOf p.x S) (D.take i)) S.length = false ∧ er = 1 ∧ m = Pm.nil) := hc
            rw [HX.out] at hc
            have HC := Lib.hid hc
            have hQ5 := hQD.below hB5
            have hB5 := HBD.out.then hB5
            clear hc hQD
            go_wp2_with fail
            repeat' (first | (refine hZ _ _ ?_; clear hZ) | (refine hZ _ ?_; clear hZ) | (refine hZ ?_; clear hZ) | rw [again_nil] | rw [walk_fin] | ((first | rw [walk_take] | rw [walk_run] | rw [again_cons]); intro Z hZ; simp only [sel, List.getElem?_toArray, List.getElem?_cons_zero, List.getElem?_cons_succ]; go_wp2_with (first | (refine wpList_alloc_pm rfl rfl ?_; intro W6 hb6 hz6 hB6) | (refine wpList_store_pm rfl rfl (.tmp 9) (.tmp 38) rfl _ rfl m rfl hb6 ?_; intro W7 hb7 hg7))))
            go_wp2_with fail
            go_meet
            case rel =>
              have z5 := hB5.size
              refine ⟨_, m, er, rfl, rfl, hb7, (hQ5.below hB6).grown hg7 (by simp only [ne_eq, Option.some.injEq]; have := hQ5.lt; omega), below_of_grown (hB5.then hB6) hg7 (by omega) (by omega), ?_⟩
              rcases HC.out with h | ⟨h1, h2, -⟩
              · exact .inl h
              · exact .inr ⟨h1, h2⟩
          · repeat' (first | (refine hZ _ _ ?_; clear hZ) | (refine hZ _ ?_; clear hZ) | (refine hZ ?_; clear hZ) | rw [again_nil] | rw [walk_fin] | ((first | rw [walk_take] | rw [walk_run] | rw [again_cons]); intro Z hZ; simp only [sel, List.getElem?_toArray, List.getElem?_cons_zero, List.getElem?_cons_succ]; go_wp2_with (first | (refine wpList_alloc_pm rfl rfl ?_; intro W6 hb6 hz6 hB6) | (refine wpList_load_qp0 rfl (.tmp 3) rfl g3 rfl (hQD.below hB6) ?_))))
            have HBE := Lib.hid (HBD.out.then hB6)
            have hQ6 := hQD.below hB6
            have hb6 : Blk W6 wr.heap.size 56 Pm.nil.cells := hb6
            have HGN : Hid (w.heap.size ≤ wr.heap.size ∧ wr.heap.size < W6.heap.size ∧ g3 < wr.heap.size) := by show _ ∧ _ ∧ _; have : w.heap.size ≤ wr.heap.size := HBD.out.size; have : g3 < wr.heap.size := hQD.lt; have := hb6.lt; omega
            generalize wr.heap.size = gp at hb6 HGN ⊢
            clear hQD hz6 hB6
            refine (HCALL.out W6 HBE.out da (D.take i) dc i ((HD.out.below HBE.out).take i) HSUB.out HTL.out (by omega)).mono ?_
            rintro e W5 ⟨m, er, rfl, hB5, -, hc⟩
            have hc : (Pn.chOk (Pn.wd (Pn.xOf p.x S) (D.take i)) S.length = true ∧ er = 0 ∧ m.e = Pn.choose (Pn.wd (Pn.xOf p.x S) (D.take i))) ∨ (Pn.chOk (Pn.wd (Pn.xOf p.x S) (D.take i)) S.length = false ∧ er = 1 ∧ m = Pm.nil) := hc
            rw [HX.out] at hc
            have HC := Lib.hid hc
            have hQ5 := hQ6.below hB5
            have hb5 := hb6.below hB5
            have z5 := hB5.size
            have hB5 := HBE.out.then hB5
            clear hc hQ6 hb6
            go_wp2_with fail
            repeat' (first | (refine hZ _ _ ?_; clear hZ) | (refine hZ _ ?_; clear hZ) | (refine hZ ?_; clear hZ) | rw [again_nil] | rw [walk_fin] | ((first | rw [walk_take] | rw [walk_run] | rw [again_cons]); intro Z hZ; simp only [sel, List.getElem?_toArray, List.getElem?_cons_zero, List.getElem?_cons_succ]; go_wp2_with (refine wpList_store_pm rfl rfl (.tmp 9) (.tmp 38) rfl gp rfl m rfl hb5 ?_; intro W7 hb7 hg7)))
            go_wp2_with fail
            go_meet
            case rel =>
              have z := HGN.out
              refine ⟨_, m, er, rfl, rfl, hb7, hQ5.grown hg7 (by simp only [ne_eq, Option.some.injEq]; omega), below_of_grown hB5 hg7 (by omega) (by omega), ?_⟩
              rcases HC.out with h | ⟨h1, h2, -⟩
              · exact .inl h
              · exact .inr ⟨h1, h2⟩
        case rest =>
          obtain ⟨g, m, er, rfl, rfl, hb, hq, hB, hc⟩ := hcut.out
          have HB5 := Lib.hid hB
          have HQ5 := Lib.hid hq
          obtain ⟨-, -, -, -, -, -, p6, p7, -⟩ := Blk.pm hb
          clear hcut hq hB hb
          rcases hc with ⟨h1, rfl, he⟩ | ⟨h1, rfl⟩
          · have HOK : Hid (Pn.chOk (Pn.wd x []) S.length = true) := by
              show _ = _
              rw [← Pn.chOk_wd x (D.take i) S.length (by simp; omega)]
              exact h1
            have hsh := Pn.sh_wd (Pn.chOk_sh h1)
            have hok := Pn.costN_ok hsh D i
            rw [← he] at hok
            unfold Pn.Okp at hok
            rw [Pm.e_cost, Pm.e_rows] at hok
            have hco : m.cost = Pn.costN x D i := by rw [← Pm.e_cost, he]; rfl
            have hws := Pn.was_ok hsh D i
            rw [HCC.out, ← hco] at hws
            obtain ⟨ck, hck⟩ : ∃ ck, m.cost = ck := ⟨_, rfl⟩
            obtain ⟨rk, hrk⟩ : ∃ rk, m.rows = rk := ⟨_, rfl⟩
            rw [hck] at p6 hok hws hco
            rw [hrk] at p7 hok
            have HCO := Lib.hid hco
            unfold Pn.maxC at hok
            have k0 : ¬ ck < 0 := by omega
            have k1 : ¬ 4503599627370496 < ck := by omega
            have k2 : ¬ rk < 1 := by omega
            clear h1 he hsh hok hco hck hrk
            rcases hws with ⟨rfl, -⟩ | ⟨w1, w2⟩
            · go_wp2_with fail
              go_roundw
              case rel => exact ⟨i + 1, by omega, by go_num, by rw [HCO.out]; rfl, fun _ => HOK.out, HB5.out, HQ5.out⟩
              case measure => simp [intOf]; omega
            · have w3 : ¬ cc < ck := by omega
              go_wp2_with fail
              go_roundw
              case rel => exact ⟨i + 1, by omega, by go_num, by rw [HCO.out]; rfl, fun _ => HOK.out, HB5.out, HQ5.out⟩
              case measure => simp [intOf]; omega
          · clear h1 p6 p7
            go_wp2_with fail
            go_ret
            exact ⟨rfl, HB5.out⟩
      · have hii : ¬ (i : Int) < (D.length : Int) + 1 := by omega
        have hie : i = D.length + 1 := by omega
        have HOK := Lib.hid (HJ.out.1 (by omega))
        have HSH : Hid (Pn.Sh x) := Pn.sh_wd (Pn.chOk_sh HOK.out)
        obtain ⟨cc, hcc⟩ : ∃ cc, Pn.wasN x D i = cc := ⟨_, rfl⟩
        have HCC : Hid ((Pn.choose (Pn.wd x D)).cost = cc) := by
          show _ = _
          rw [← hcc, hie]
          show _ = (Pn.choose (Pn.wd x (D.take D.length))).cost
          rw [List.take_length]
        rw [hcc]
        clear hcc hie HJ
        go_upto_region 16 with fail
        go_loopw [72, 11] (fun jv av wx => ∃ (j : Nat) (L : List Df) (A : Option Addr) (c : Nat), j ≤ D.length ∧ jv = .int .i64 (j : Int) ∧ av = .slice A L.length c ∧ L.length = j ∧ Hid (L = D.reverse.take j ∧ EOwn eDf wx w.heap.size A c L ∧ Below w.heap.size w wx ∧ Blk wx g3 50 p.cells)) (fun jv _ _ => D.length - (intOf jv).toNat)
        case atStart => exact ⟨0, [], none, 0, Nat.zero_le _, by go_num, rfl, rfl, by simp, EOwn.nil _ _, HBr.out, HQr.out⟩
        case round =>
          obtain ⟨j, L, A, c, hj, rfl, rfl, hLl, HK⟩ := hrel
          obtain ⟨hL, hO, hB, hQ⟩ := HK.out
          have HL := Lib.hid hL
          have HLL := Lib.hid hLl
          have HO := Lib.hid hO
          have HB := Lib.hid hB
          have HQ := Lib.hid hQ
          have hL12 : L.length ≤ 12 := by omega
          clear hL hO hB hQ HK hLl HBr HQr
          by_cases hlt2 : j < D.length
          · have hji : (j : Int) < (D.length : Int) := by omega
            obtain ⟨k, hk⟩ : ∃ k : Nat, (D.length : Int) - 1 - (j : Int) = (k : Int) := ⟨D.length - 1 - j, by omega⟩
            have hkl : k < D.length := by omega
            have hki : (k : Int) < (D.length : Int) := by omega
            obtain ⟨d, hd⟩ : ∃ d, D[k] = d := ⟨_, rfl⟩
            have HTK : Hid (L ++ [d] = D.reverse.take (j + 1)) := by
              show _ = _
              rw [List.take_succ_eq_append_getElem (by simp; omega), ← HL.out, List.getElem_reverse, ← hd]
              congr 3
              omega
            obtain ⟨bb, oo, rfl, -, hcell⟩ := (HD.out.below HB.out).at_ hkl
            have q0 := hcell 0 (.int .i64 d.t) (by rw [hd]; rfl)
            have q1 := hcell 1 (.slice d.a d.cols.length d.c) (by rw [hd]; rfl)
            have q2 := hcell 2 (.bool d.real) (by rw [hd]; rfl)
            have q0 : wr.cell? ⟨bb, oo + k * 3, none⟩ = some (.int .i64 d.t) := q0
            have q1 : wr.cell? ⟨bb, oo + k * 3 + 1, none⟩ = some (.slice d.a d.cols.length d.c) := q1
            have q2 : wr.cell? ⟨bb, oo + k * 3 + 2, none⟩ = some (.bool d.real) := q2
            clear hcell hd
            have HOE := HO.out.alloc (.cells #[.int .i64 d.t, .slice d.a d.cols.length d.c, .bool d.real] 61)
            have HRL : Hid (ERow eDf (wr.alloc (.cells #[.int .i64 d.t, .slice d.a d.cols.length d.c, .bool d.real] 61)) (some ⟨wr.heap.size, 0, none⟩) [d]) := ERow.lit eDf wr d _ rfl _ rfl
            have hsz : w.heap.size ≤ (wr.alloc (.cells #[.int .i64 d.t, .slice d.a d.cols.length d.c, .bool d.real] 61)).heap.size := by have := HB.out.size; simp; omega
            have hQA := HQ.out.below (Below.alloc1 wr (.cells #[.int .i64 d.t, .slice d.a d.cols.length d.c, .bool d.real] 61))
            have hBA := HB.out.then (Below.alloc1 wr (.cells #[.int .i64 d.t, .slice d.a d.cols.length d.c, .bool d.real] 61))
            go_upto_region 19 with (at_builtin; refine wpList_append_elems eDf rfl (.tmp 75) (.tmp 84) rfl L.length rfl HOE rfl 1 rfl HRL.out rfl (by simp; omega) hsz ?_; intro A8 c8 W8 ho8 hB8 hg8 hx8)
            have HB8 : Hid (Below w.heap.size w W8) := hBA.trans hB8
            have HQ8 := Lib.hid (hQA.keptO HOE (by decide) hg8)
            have HO8 := Lib.hid ho8
            have HLN : Hid ((L ++ [d]).length = j + 1) := by show _ = _; rw [List.length_append, HLL.out]; rfl
            clear hk q0 q1 q2 HOE HRL hsz hQA hBA hg8 hB8 hx8 ho8 HQ HB HO
            go_wp2_with fail
            go_roundw
            case rel => exact ⟨j + 1, L ++ [d], A8, c8, by omega, by go_num, by simp, HLN.out, HTK.out, HO8.out, HB8.out, HQ8.out⟩
            case measure => simp [intOf]; omega
          · have hji : ¬ (j : Int) < (D.length : Int) := by omega
            have hL2 : Hid (L = D.reverse) := by show _ = _; rw [HL.out, List.take_of_length_le (by simp; omega)]
            have hln : Hid (L.length = D.length) := by show _ = _; rw [hL2.out]; simp
            go_upto_region 20 with fail
            go_wp2_with (refine wpList_load_qp0 rfl (.tmp 3) rfl g3 rfl HQ.out ?_)
            refine (plcall_any w p HP.out sa S sc HS.out HSR.out D HDR.out HSS.out wr HB.out A L c L.length HO.out.row (by intro d hd; rw [hL2.out] at hd; exact List.mem_reverse.1 hd) rfl (by omega)).mono ?_
            rintro e W5 ⟨m, er, rfl, hB5, -, hc⟩
            have hc : (Pn.chOk (Pn.wd (Pn.xOf p.x S) L) S.length = true ∧ er = 0 ∧ m.e = Pn.choose (Pn.wd (Pn.xOf p.x S) L)) ∨ (Pn.chOk (Pn.wd (Pn.xOf p.x S) L) S.length = false ∧ er = 1 ∧ m = Pm.nil) := hc
            rw [HX.out, Pn.chOk_wd x L S.length (by omega)] at hc
            obtain ⟨rfl, he⟩ : er = 0 ∧ m.e = Pn.choose (Pn.wd x L) := by
              rcases hc with ⟨-, h1, h2⟩ | ⟨h1, -⟩
              · exact ⟨h1, h2⟩
              · exact absurd (h1.symm.trans HOK.out) (by decide)
            have hco : m.cost = cc := by
              rw [← Pm.e_cost, he, hL2.out, Pn.choose_turn HSH.out.t1 (by have := HSH.out.t4; omega) HSH.out.bl, HCC.out]
            have HB5 := Lib.hid (HB.out.then hB5)
            clear hc he hB5
            go_upto_region 21 with (first | (refine wpList_alloc_pm rfl rfl ?_; intro W6 hb6 hz6 hB6) | (refine wpList_store_pm rfl rfl (.tmp 13) (.tmp 92) rfl _ rfl m rfl hb6 ?_; intro W7 hb7 hg7))
            have z5 := HB5.out.size
            have HB7 := Lib.hid (below_of_grown (HB5.out.then hB6) hg7 (by omega) (by omega))
            obtain ⟨-, -, -, -, -, -, p6, -, -⟩ := Blk.pm hb7
            rw [hco] at p6
            clear hco hb6 hz6 hB6 hb7 hg7 z5
            go_wp2_with fail
            go_ret
            exact ⟨by simp, HB7.out⟩
end Go.Proofs.Ytjdffhonljhpcaa
end

