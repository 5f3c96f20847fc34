/-
  The walk of DiskSure.
-/
import Derived.Test.YthbanhedjfpmaaaDiskSure1
namespace Go.Proofs.Ythbanhedjfpmaaa
set_option linter.unusedSimpArgs false
set_option linter.unusedVariables false
open Go.RowKit

/-- 512 noughts. -/
def Zt : List UInt8 := List.replicate 512 0
theorem Zt_length : Zt.length = 512 := List.length_replicate
theorem zt_step (i : Nat) (hi : i < 8) : (List.replicate i Zt ++ List.replicate (8 - i) ([] : List UInt8)).set i Zt = List.replicate (i + 1) Zt ++ List.replicate (8 - (i + 1)) [] := by
  rw [List.set_append_right _ _ (by simp), List.length_replicate, Nat.sub_self, show 8 - i = (8 - (i + 1)) + 1 from by omega, List.replicate_succ, List.set_cons_zero, List.replicate_succ', List.append_assoc]
  rfl
theorem will_new (j : Nat) (hj : j < 8) : (DS.new 8).will j = (List.replicate 8 Zt).getD j [] := by
  have e : (DS.new 8).blocks.getD j default = ⟨B512.zero, B512.zero⟩ := by
    show (List.replicate 8 (⟨B512.zero, B512.zero⟩ : DB)).getD j default = _
    rw [List.getD_eq_getElem?_getD, List.getElem?_replicate, if_pos hj]
    rfl
  show ((DS.new 8).blocks.getD j default).sure.l = _
  rw [e]
  simp only [List.getD_eq_getElem?_getD, List.getElem?_replicate, hj, if_true, Option.getD_some]
  rfl
theorem mod8 (x : Int) : ∃ m : Nat, m < 8 ∧ wrap64 ((IntKind.u64.wrap x).tmod 8) = (m : Int) := by
  have h0 : 0 ≤ IntKind.u64.wrap x := by simp [IntKind.wrap, IntKind.signed, IntKind.bits]; omega
  refine ⟨(IntKind.u64.wrap x % 8).toNat, by omega, ?_⟩
  rw [Int.tmod_eq_emod_of_nonneg h0]
  have h1 : 0 ≤ IntKind.u64.wrap x % 8 ∧ IntKind.u64.wrap x % 8 < 8 := by omega
  generalize IntKind.u64.wrap x % 8 = y at h1
  unfold wrap64
  simp [IntKind.wrap, IntKind.signed, IntKind.bits]
  omega
theorem run_string_zt (w : World) {B : Nat} {A : Option Addr} {c : Nat} (h : BOwn w B A c (List.replicate 512 0)) : (convert 33 9 (.slice A 512 c)).run Try.prog w = .ok (txt Zt) w := by
  have := run_string_bytes w (l := Zt) c h.row
  rwa [Zt_length] at this
theorem DL.own_lt {w0 w : World} {k : KB} {d : DS} {n : Nat} (h : DL w0 w k d n) : ∀ i, k.own i → i < w.heap.size := fun i hi => by
  have := h.at_.head
  rcases hi with rfl | rfl
  · exact this.2.1
  · exact this.2.2.1
/-- A new row is kept by a disk's call. -/
theorem DL.new_kept {w0 w w7 w8 : World} {k : KB} {d : DS} {n : Nat} (h : DL w0 w k d n) {A : Option Addr} {c : Nat} {l : List UInt8} (ho : BOwn w7 w.heap.size A c l) (hK : Keeps w7 w8 k.own) : BOwn w8 w.heap.size A c l :=
  ho.keptK hK fun a ha ho' => by
    have h1 := (ho.block a ha).1
    have h2 := h.own_lt _ ho'
    omega
theorem fitsD_len {n : Int} {L : List OpD} (h : fitsD n L = true) : L.length ≤ 60 := by
  unfold fitsD at h
  simp only [Bool.and_eq_true, decide_eq_true_eq] at h
  exact h.1.2
theorem getD_set8 {ws : List (List UInt8)} (hw : ws.length = 8) {m : Nat} (l : List UInt8) {j : Nat} (hj : j < 8) : (ws.set m l).getD j [] = if j = m then l else ws.getD j [] := by
  rw [List.getD_eq_getElem?_getD, List.getD_eq_getElem?_getD]
  by_cases h : j = m
  · subst h
    rw [List.getElem?_set_self (by omega), if_pos rfl]; rfl
  · rw [List.getElem?_set_ne (fun e => h e.symm), if_neg h]
set_option maxRecDepth 20000 in
set_option maxHeartbeats 1000000 in
theorem diskSure_fit (w : World) (A1 : Option Addr) (c1 : Nat) (L1 : List OpD) (A2 : Option Addr) (c2 : Nat) (L2 : List OpD) (f : DF) (hr1 : ERow eOpD w A1 L1) (hf1 : ∀ o ∈ L1, o.Fine w) (hr2 : ERow eOpD w A2 L2) (hf2 : ∀ o ∈ L2, o.Fine w) (hf : f.Fine)
    (h1 : fitsD 1 L1 = true) (h2 : fitsD 1 L2 = true) :
    Calls Try.prog 3 #[.slice A1 L1.length c1, .slice A2 L2.length c2, .agg (eDF.code f).toArray] w fun e w' => e = .returned (.bool true) ∧ Below w.heap.size w w' := by
  have HF1 := Lib.hid (fun w' (hb : Below w.heap.size w w') => fits_any w' 1 A1 c1 L1 (hr1.below hb) (fun o ho => ⟨(hf1 o ho).s, Nat.le_trans (hf1 o ho).len (hf1 o ho).cap⟩))
  have HF2 := Lib.hid (fun w' (hb : Below w.heap.size w w') => fits_any w' 1 A2 c2 L2 (hr2.below hb) (fun o ho => ⟨(hf2 o ho).s, Nat.le_trans (hf2 o ho).len (hf2 o ho).cap⟩))
  have hl1 := fitsD_len h1
  have hl2 := fitsD_len h2
  rw [h1] at HF1
  rw [h2] at HF2
  have HR := Lib.hid (And.intro hr1 (And.intro hf1 (And.intro hr2 (And.intro hf2 hf))))
  clear hr1 hf1 hr2 hf2 hf h1 h2
  obtain ⟨fa, fk, ft⟩ := f
  simp only [eDF]
  go_enter Try.func3, Try.ntmps3
  go_wp2_with fail
  generalize hW0 : World.alloc w (.cells _ _) = W
  obtain ⟨ba0, hz0, hB0⟩ := fresh1 hW0
  clear hW0
  have HB0 := Lib.hid hB0
  have HA0 := Lib.hid ba0
  clear hB0 ba0
  refine (lives_any W).mono ?_
  rintro e w1 ⟨rfl, hB⟩
  have HB1 := Lib.hid hB
  clear hB
  go_wp2_with fail
  refine (HF1.out w1 (HB0.out.trans (HB1.out.mono HB0.out.size))).mono ?_
  rintro e w2 ⟨rfl, hB⟩
  have HB2 := Lib.hid (HB1.out.trans (hB.mono HB1.out.size))
  clear hB HB1
  go_wp2_with fail
  refine (HF2.out w2 (HB0.out.trans (HB2.out.mono HB0.out.size))).mono ?_
  rintro e w3 ⟨rfl, hB⟩
  have HB3 := Lib.hid (HB2.out.trans (hB.mono HB2.out.size))
  clear hB HB2
  go_wp2_with fail
  refine (DL.new (w0 := W) 8 (by decide) (by decide) HB3.out).mono ?_
  rintro e w4 ⟨k, rfl, hL, -⟩
  have HL := Lib.hid hL
  clear hL HB3 HF1 HF2
  go_upto_region 5 with (fail)
  generalize hW5 : World.alloc w4 (.cells _ _) = W5
  obtain ⟨ba5, hz5, hB5⟩ := fresh1 hW5
  clear hW5
  have HI : Hid (SU W W5 k (DS.new 8) 0 w4.heap.size (List.replicate 0 Zt ++ List.replicate (8 - 0) [])) := ⟨HL.out.below hB5, ba5, HL.out.bel.size, rfl⟩
  clear hB5 ba5 HL
  obtain ⟨g, hg⟩ : ∃ g, g = w4.heap.size := ⟨_, rfl⟩
  rw [← hg] at HI ⊢
  clear hg hz5
  go_wp2_with fail
  go_loopw [39] (fun iv wr => ∃ i : Nat, i ≤ 8 ∧ iv = .int .i64 i ∧ Hid (SU W wr k (DS.new 8) 0 g (List.replicate i Zt ++ List.replicate (8 - i) []))) (fun iv _ => 8 - (intOf iv).toNat)
  case atStart => exact ⟨0, by omega, rfl, HI.out⟩
  case round =>
    obtain ⟨i, hi, rfl, HJ⟩ := hrel
    clear HI
    by_cases hlt : i < 8
    · have hii : (i : Int) < 8 := by omega
      go_upto_region 8 with (fail)
      go_wp2_with (refine wpList_make_zeros rfl (.const (.int .i64 512)) (.const (.int .i64 512)) rfl _ _ _ _ 512 rfl rfl rfl rfl (by decide) (Nat.le_refl _) ?_; intro w6 ho hb; have hcv := run_string_zt w6 ho; unfold txt at hcv; have hc6 := (HJ.out.below hb).cell hlt; have H6 := Lib.hid (HJ.out.below hb); clear ho hb)
      go_roundw
      case rel => exact ⟨i + 1, by omega, by go_num, by rw [← zt_step i hlt]; exact H6.out.set i Zt⟩
      case measure => simp [intOf]; omega
    · obtain rfl : i = 8 := by omega
      have HC : Hid (SU W wr k (DS.new 8) 0 g (List.replicate 8 Zt)) := by
        have := HJ.out
        rw [Nat.sub_self, List.replicate_zero, List.append_nil] at this
        exact this
      clear HJ hlt
      rw [show ((8 : Nat) : Int) = 8 from rfl]
      go_wp2_with fail
      go_loopw [49] (fun iv wr => ∃ i : Nat, i ≤ L1.length ∧ iv = .int .i64 i ∧ ∃ d ws, Hid (SU W wr k d i g ws ∧ Calm d ∧ ∀ j, j < 8 → d.will j = ws.getD j [])) (fun iv _ => L1.length - (intOf iv).toNat)
      case atStart => exact ⟨0, by omega, rfl, _, _, HC.out, ⟨rfl, rfl, rfl⟩, fun j hj => will_new j hj⟩
      case round =>
        obtain ⟨i, hi, rfl, d, ws, HJ⟩ := hrel
        clear HC
        by_cases hlt : i < L1.length
        · have hii : (i : Int) < (L1.length : Int) := by omega
          obtain ⟨b, o, rfl, hb, hcc⟩ := opd_at ((HR.out.1.below HB0.out).below HJ.out.1.dl.bel) hlt
          have hfine := Lib.hid (HR.out.2.1 L1[i] (List.getElem_mem hlt))
          generalize L1[i] = q at hcc hfine
          unfold txt at hcc
          go_upto_region 13 with (fail)
          go_upto_region 14 with (fail)
          obtain ⟨m, hm, hme⟩ := mod8 q.at_
          rw [hme]
          have HM := Lib.hid hme
          clear hme
          generalize hW6 : World.alloc wr (.cells _ _) = W6
          obtain ⟨ba6, hz6, hB6⟩ := fresh1 hW6
          clear hW6
          have h2 := ba6.cell 2
          have h3 := ba6.cell 3
          have hf3 := Lib.hid (fill_any W6 q.c q.s)
          have H6 := Lib.hid (HJ.out.1.below hB6)
          clear hB6 hcc
          simp only [List.getElem?_cons_zero, List.getElem?_cons_succ] at h2 h3
          go_wp2_with fail
          refine hf3.out.mono ?_
          rintro e w7 ⟨A7, c7, rfl, ho7, hb7⟩
          have hl7 := fillL_length q.c q.s
          have H7 := Lib.hid (And.intro (H6.out.below hb7) ho7)
          have hcw := H7.out.1.dl.write (by omega) (m : Int) A7 c7 _ ho7.row
          have hwr := HJ.out.2.1.write hm hl7
          rw [hl7, hwr.1] at hcw
          have HW := Lib.hid hcw
          have HN := Lib.hid (And.intro hwr.2.1 hwr.2.2.1)
          have HO7 := Lib.hid (fun w8 (hK : Keeps w7 w8 k.own) => H6.out.dl.new_kept ho7 hK)
          clear ho7 hb7 H6 hf3 ba6 hcw h2 h3 hwr
          generalize (d.write (m : Int) (fillL q.c q.s)).1 = d' at HW HN
          go_wp2_with fail
          refine HW.out.mono ?_
          rintro e w8 ⟨rfl, hL8, hK8⟩
          have H8 := Lib.hid (H7.out.1.disk hL8 hK8)
          have hcv := run_string_bytes w8 c7 (HO7.out w8 hK8).row
          rw [hl7] at hcv
          have hc8 := H8.out.cell hm
          have hmi : (m : Int) < 8 := by omega
          unfold txt at hcv
          clear hL8 hK8 hl7
          go_wp2_with fail
          go_roundw
          case rel =>
            refine ⟨i + 1, by omega, by go_num, d', ws.set m (fillL q.c q.s), H8.out.set m _, HN.out.1, fun j hj => ?_⟩
            rw [HN.out.2, getD_set8 H8.out.len _ hj, HJ.out.2.2 j hj]
          case measure => simp [intOf]; omega
        · obtain rfl : i = L1.length := by omega
          have hii : ¬ (L1.length : Int) < (L1.length : Int) := by omega
          have hfl := HJ.out.2.1.flush
          have hcf := HJ.out.1.dl.flush (by omega)
          rw [hfl.1] at hcf
          have HF := Lib.hid hcf
          have HN := Lib.hid hfl.2
          clear hfl hcf hlt
          generalize d.flush.1 = d' at HF HN
          go_wp2_with fail
          refine HF.out.mono ?_
          rintro e w8 ⟨rfl, hL8, hK8⟩
          have H8 : Hid (SU W w8 k d' (L1.length + 1) g ws ∧ LooseD d' ws (List.replicate 8 false)) := ⟨HJ.out.1.disk hL8 hK8, HN.out.1, List.length_replicate, HJ.out.1.len, fun j hj _ => ⟨by rw [HN.out.2.2, HJ.out.2.2 j hj], fun x hx => by rw [HN.out.2.1] at hx; cases hx⟩⟩
          clear hL8 hK8 HJ HF HN
          go_upto_region 22 with (fail)
          generalize hW9 : World.alloc w8 (.cells _ _) = W9
          obtain ⟨ba9, hz9, hB9⟩ := fresh1 hW9
          clear hW9
          have HV : Hid (SV W W9 k d' (L1.length + 1) g ws w8.heap.size (List.replicate 8 false) ∧ LooseD d' ws (List.replicate 8 false)) := ⟨⟨H8.out.1.below hB9, ba9, H8.out.1.dl.bel.size, rfl⟩, H8.out.2⟩
          clear H8 hB9 ba9 hz9
          obtain ⟨t, ht⟩ : ∃ t, t = w8.heap.size := ⟨_, rfl⟩
          rw [← ht] at HV ⊢
          clear ht
          go_wp2_with fail
          go_loopw [78] (fun iv wr => ∃ i : Nat, i ≤ L2.length ∧ iv = .int .i64 i ∧ ∃ d ts, Hid (SV W wr k d (L1.length + 1 + i) g ws t ts ∧ LooseD d ws ts)) (fun iv _ => L2.length - (intOf iv).toNat)
          case atStart => exact ⟨0, by omega, rfl, _, _, HV.out⟩
          case round =>
            obtain ⟨i, hi, rfl, d, ts, HJ⟩ := hrel
            clear HV
            by_cases hlt : i < L2.length
            · have hii : (i : Int) < (L2.length : Int) := by omega
              obtain ⟨b, o, rfl, hb, hcc⟩ := opd_at ((HR.out.2.2.1.below HB0.out).below HJ.out.1.su.dl.bel) hlt
              generalize L2[i] = q at hcc
              unfold txt at hcc
              go_upto_region 26 with (fail)
              obtain ⟨m, hm, hme⟩ := mod8 q.at_
              rw [hme]
              clear hme
              generalize hW6 : World.alloc wr (.cells _ _) = W6
              obtain ⟨ba6, hz6, hB6⟩ := fresh1 hW6
              clear hW6
              have h2 := ba6.cell 2
              have h3 := ba6.cell 3
              have hf3 := Lib.hid (fill_any W6 q.c q.s)
              have H6 := Lib.hid (HJ.out.1.below hB6)
              clear hB6 hcc
              simp only [List.getElem?_cons_zero, List.getElem?_cons_succ] at h2 h3
              go_wp2_with fail
              refine hf3.out.mono ?_
              rintro e w7 ⟨A7, c7, rfl, ho7, hb7⟩
              have hl7 := fillL_length q.c q.s
              have H7 := Lib.hid (H6.out.below hb7)
              have hcw := H7.out.su.dl.write (by omega) (m : Int) A7 c7 _ ho7.row
              have hwr := HJ.out.2.calm.write hm hl7
              rw [hl7, hwr.1] at hcw
              have HW := Lib.hid hcw
              have HN := Lib.hid (HJ.out.2.write hm hl7)
              clear ho7 hb7 H6 hf3 ba6 hcw h2 h3 hwr
              generalize (d.write (m : Int) (fillL q.c q.s)).1 = d2 at HW HN
              go_wp2_with fail
              refine HW.out.mono ?_
              rintro e w8' ⟨rfl, hL8, hK8⟩
              have H8 := Lib.hid (H7.out.disk hL8 hK8)
              have hc8 := H8.out.cell hm
              have hmi : (m : Int) < 8 := by omega
              clear hL8 hK8 hl7
              go_wp2_with fail
              go_roundw
              case rel => exact ⟨i + 1, by omega, by go_num, d2, ts.set m true, H8.out.set m, HN.out⟩
              case measure => simp [intOf]; omega
            · obtain rfl : i = L2.length := by omega
              have hii : ¬ (L2.length : Int) < (L2.length : Int) := by omega
              have hfa := (HA0.out.below HJ.out.1.su.dl.bel).c3
              have HC := Lib.hid (HJ.out.1.su.dl.crash ⟨fa, fk, ft⟩ HR.out.2.2.2.2.1)
              clear hlt
              go_wp2_with fail
              refine HC.out.mono ?_
              rintro e w10 ⟨rfl, hL10, hK10⟩
              have H10 := Lib.hid (HJ.out.1.disk hL10 hK10)
              have HN := Lib.hid (HJ.out.2.crash ⟨fa, fk, ft⟩)
              clear hL10 hK10 HC hfa
              generalize d.crash ⟨fa, fk, ft⟩ = d3 at H10 HN
              have HU := Lib.hid H10.out.su.dl.up
              go_wp2_with fail
              refine HU.out.mono ?_
              rintro e w11 ⟨rfl, hL11, hK11⟩
              have H11 : Hid (SV W w11 k { d3 with down := false } (L1.length + 1 + L2.length) g ws t ts ∧ d3.blocks.length = 8 ∧ d3.pending = [] ∧ ∀ i, i < 8 → ts.getD i false = false → (d3.blocks.getD i default).now.l = ws.getD i []) := ⟨H10.out.disk hL11 hK11, HN.out⟩
              clear hL11 hK11 H10 HN HU HJ
              go_wp2_with fail
              go_loopw [104] (fun iv wr => ∃ i : Nat, i ≤ 8 ∧ iv = .int .i64 i ∧ Hid (SV W wr k { d3 with down := false } (L1.length + 1 + L2.length) g ws t ts)) (fun iv _ => 8 - (intOf iv).toNat)
              case atStart => exact ⟨0, by omega, rfl, H11.out.1⟩
              case round =>
                obtain ⟨i, hi, rfl, HJ⟩ := hrel
                by_cases hlt : i < 8
                · have hii : (i : Int) < 8 := by omega
                  have HRD := Lib.hid (read_ok wr _ k _ HJ.out.su.dl.at_ i (by rw [show ({ d3 with down := false } : DS).blocks = d3.blocks from rfl, H11.out.2.1]; exact hlt) rfl)
                  go_wp2_with fail
                  refine HRD.out.mono ?_
                  rintro e w12 ⟨A12, c12, rfl, ho12, hb12⟩
                  have H12 := Lib.hid (HJ.out.below hb12)
                  have hcw := H12.out.su.cell hlt
                  have hct := H12.out.cell hlt
                  unfold txt at hcw
                  cases htt : ts.getD i false with
                  | false =>
                    have hbl : i < d3.blocks.length := by rw [H11.out.2.1]; exact hlt
                    have e1 := H11.out.2.2.2 i hlt htt
                    have e2 : d3.blocks.getD i default = d3.blocks[i] := by simp [hbl]
                    rw [e2] at e1
                    have ho : BOwn w12 wr.heap.size A12 c12 (ws.getD i []) := by rw [← e1]; exact ho12
                    have h512 : (ws.getD i []).length = 512 := by rw [← e1]; exact d3.blocks[i].now.h
                    have hcv := run_string_bytes w12.drew c12 ho.row.drew
                    rw [h512] at hcv
                    unfold txt at hcv
                    rw [htt] at hct
                    simp only [Bool.false_eq_true, if_false] at hct
                    clear ho12 ho e1 e2 hb12 HRD HJ htt hbl
                    generalize ws.getD i [] = x at hcv hcw h512
                    clear h512
                    go_wp2_with fail
                    refine wp_region_plan (.take 0 (.take 1 (.take 2 (.take 3 (.take 4 (.take 5 (.take 6 (.take 7 (.take 8 (.take 9 (.take 10 (.take 11 (.take 12 (.take 13 (.take 14 (.take 15 .fin)))))))))))))))) (by kernel_rfl) (by kernel_rfl) (by kernel_rfl) (by kernel_rfl) ?_
                    simp only [walk, again, sel, List.getElem?_toArray, List.getElem?_cons_zero, List.getElem?_cons_succ]
                    repeat (intro Z hZ; go_wp2_with (fail))
                    go_roundw
                    case rel => exact ⟨i + 1, by omega, by go_num, H12.out.below (below_drew _)⟩
                    case measure => simp [intOf]; omega
                  | true =>
                    rw [htt] at hct
                    simp only [if_true] at hct
                    clear ho12 hb12 HRD HJ htt
                    generalize ws.getD i [] = x at hcw
                    go_wp2_with fail
                    refine wp_region_plan (.take 0 (.take 1 (.take 2 (.take 3 (.take 4 (.take 5 (.take 6 (.take 7 (.take 8 (.take 9 (.take 10 (.take 11 (.take 12 (.take 13 (.take 14 (.take 15 .fin)))))))))))))))) (by kernel_rfl) (by kernel_rfl) (by kernel_rfl) (by kernel_rfl) ?_
                    simp only [walk, again, sel, List.getElem?_toArray, List.getElem?_cons_zero, List.getElem?_cons_succ]
                    repeat (intro Z hZ; go_wp2_with (fail))
                    go_roundw
                    case rel => exact ⟨i + 1, by omega, by go_num, H12.out.below (below_drew _)⟩
                    case measure => simp [intOf]; omega
                · obtain rfl : i = 8 := by omega
                  have hii : ¬ ((8 : Nat) : Int) < 8 := by omega
                  have HP := Lib.hid (pending_any wr _ k _ HJ.out.su.dl.at_)
                  rw [show ({ d3 with down := false } : DS).pending = d3.pending from rfl, H11.out.2.2.1] at HP
                  go_wp2_with fail
                  refine HP.out.mono ?_
                  rintro e w12 ⟨rfl, rfl⟩
                  go_wp2_with fail
                  go_ret
                  exact ⟨rfl, HB0.out.trans (HJ.out.su.dl.bel.mono HB0.out.size)⟩
end Go.Proofs.Ythbanhedjfpmaaa
