/-
  The walk of DiskWhole.
-/
import Derived.Test.YthbanhedjfpmaaaDiskWhole0
namespace Go.Proofs.Ythbanhedjfpmaaa
set_option linter.unusedSimpArgs false
set_option linter.unusedVariables false
open Go.RowKit

set_option maxRecDepth 20000 in
set_option maxHeartbeats 1000000 in
theorem diskWhole_fit (w : World) (A1 : Option Addr) (c1 : Nat) (L1 : List OpD) (hr1 : ERow eOpD w A1 L1) (hf1 : ∀ o ∈ L1, o.Fine w) (all : Bool) (h1 : fitsD 1 L1 = true) :
    Calls Try.prog 4 #[.slice A1 L1.length c1, .bool all] w fun e w' => e = .returned (.bool true) ∧ Below w.heap.size w w' := by
  have HF1 := Lib.hid (fun w' (hb : Below w.heap.size w w') => fits_any w' 1 A1 c1 L1 (hr1.below hb) (fun o ho => ⟨(hf1 o ho).s, Nat.le_trans (hf1 o ho).len (hf1 o ho).cap⟩))
  have hl1 := fitsD_len h1
  rw [h1] at HF1
  have HR := Lib.hid hr1
  clear hr1 hf1 h1
  go_enter Try.func4, Try.ntmps4
  go_wp2_with fail
  refine (lives_any w).mono ?_
  rintro e w1 ⟨rfl, hB⟩
  have HB1 := Lib.hid hB
  clear hB
  go_wp2_with fail
  refine (HF1.out w1 HB1.out).mono ?_
  rintro e w3 ⟨rfl, hB⟩
  have HB3 := Lib.hid (HB1.out.trans (hB.mono HB1.out.size))
  clear hB HB1
  go_wp2_with fail
  refine (DL.new (w0 := w) 8 (by decide) (by decide) HB3.out).mono ?_
  rintro e w4 ⟨k, rfl, hL, -⟩
  have HL := Lib.hid hL
  clear hL HB3 HF1
  go_wp2_with fail
  refine (HL.out.clone).mono ?_
  rintro e w5 ⟨k2, rfl, hS, -⟩
  have HI : Hid (SW w w5 k (DS.new 8) 0 w4.heap.size k2 (DS.new 8) ∧ PairD (DS.new 8) (DS.new 8)) := ⟨hS, PairD.new⟩
  clear hS HL
  go_wp2_with fail
  go_loopw [7, 35] (fun sv iv wr => ∃ i : Nat, i ≤ L1.length ∧ iv = .int .i64 i ∧ ∃ (d s : DS) (k2 : KB) (B2 n : Nat), n ≤ 2 * i ∧ d.pending.length ≤ i ∧ sv = .pointer (some ⟨k2.gd, 0, none⟩) ∧ Hid (SW w wr k d n B2 k2 s ∧ PairD d s)) (fun _ iv _ => L1.length - (intOf iv).toNat)
  case atStart => exact ⟨0, by omega, rfl, _, _, k2, _, 0, Nat.le_refl _, Nat.le_refl _, rfl, HI.out⟩
  case round =>
    obtain ⟨i, hi, rfl, d, s, k2, B2, n, hn, hpl, rfl, HJ⟩ := hrel
    clear HI
    by_cases hlt : i < L1.length
    · have hii : (i : Int) < (L1.length : Int) := by omega
      obtain ⟨b, o, rfl, hb, hcc⟩ := opd_at (HR.out.below HJ.out.1.dl.bel) hlt
      generalize L1[i] = q at hcc
      unfold txt at hcc
      go_upto_region 8 with (fail)
      obtain ⟨m, hm, hme⟩ := mod8 q.at_
      have HM := Lib.hid hme
      clear hme
      generalize hW6 : World.alloc wr (.cells _ _) = W6
      obtain ⟨ba6, hz6, hB6⟩ := fresh1 hW6
      clear hW6
      have H6 := Lib.hid (HJ.out.1.below hB6)
      have HB6 := Lib.hid ba6
      have h1 := ba6.cell 1
      have h2 := ba6.cell 2
      have h3 := ba6.cell 3
      simp only [List.getElem?_cons_zero, List.getElem?_cons_succ] at h1 h2 h3
      clear ba6 hB6 hcc
      refine wp_region_plan (.take 0 (.take 1 (.take 2 (.take 3 (.take 4 (.take 5 (.take 6 (.take 7 (.take 8 (.take 9 (.run 10 [0, 1, 2, 3, 4, 5] (.run 11 [] (.take 12 .fin))))))))))))) (by kernel_rfl) (by kernel_rfl) (by kernel_rfl) (by kernel_rfl) ?_
      simp only [walk, again, sel, List.getElem?_toArray, List.getElem?_cons_zero, List.getElem?_cons_succ]
      repeat (intro Z hZ; go_wp2_with (fail))
      refine (fill_any W6.drew q.c q.s).mono ?_
      rintro e w7 ⟨A7, c7, rfl, ho7, hb7⟩
      have hl7 := fillL_length q.c q.s
      have H7 := Lib.hid ((H6.out.below (below_drew _)).below hb7)
      have hcw := H7.out.dl.write (by omega) (m : Int) A7 c7 _ ho7.row
      have hwr := HJ.out.2.whole.calm.write hm hl7
      rw [hl7, hwr.1] at hcw
      have hpl' : (d.write (m : Int) (fillL q.c q.s)).1.pending.length ≤ i + 1 := by rw [hwr.2.2.2.2, List.length_append]; simpa using hpl
      have HW := Lib.hid hcw
      have HN := Lib.hid (HJ.out.2.write hm hl7)
      clear h1 h2 h3
      have h1 := ((HB6.out.drew).below hb7).cell 1
      have h2 := ((HB6.out.drew).below hb7).cell 2
      have h3 := ((HB6.out.drew).below hb7).cell 3
      simp only [List.getElem?_cons_zero, List.getElem?_cons_succ] at h1 h2 h3
      clear ho7 hb7 H6 hcw hwr HB6
      generalize (d.write (m : Int) (fillL q.c q.s)).1 = d2 at HW HN hpl'
      go_wp2_with fail
      repeat (intro Z hZ; go_wp2_with (fail))
      rw [HM.out]
      refine HW.out.mono ?_
      rintro e w8 ⟨rfl, hL8, hK8⟩
      have H8 : Hid (SW w w8 k d2 (n + 1) B2 k2 s ∧ PairD d2 s) := ⟨H7.out.disk hL8 hK8, HN.out⟩
      clear hL8 hK8 hl7 H7 HN HW HJ h1 h2 h3 HM
      by_cases h5 : i % 5 = 4
      · have hm5 : ((i : Int).tmod 5 == 4) = true := by
          rw [Int.tmod_eq_emod_of_nonneg (by omega)]
          simp; omega
        go_wp2_with fail
        repeat (intro Z hZ; go_wp2_with (fail))
        have hfl := H8.out.2.whole.calm.flush
        have hcf := H8.out.1.dl.flush (by omega)
        rw [hfl.1] at hcf
        have HF := Lib.hid hcf
        have HN := Lib.hid H8.out.2.flush
        have hpf : d2.flush.1.pending.length ≤ i + 1 := by rw [hfl.2.2.1]; simp
        clear hfl hcf
        generalize d2.flush.1 = d3 at HF HN hpf
        refine HF.out.mono ?_
        rintro e w9 ⟨rfl, hL9, hK9⟩
        have HC := Lib.hid hL9.clone
        clear hL9 hK9 HF H8
        go_wp2_with fail
        refine HC.out.mono ?_
        rintro e w10 ⟨k3, rfl, hS, -⟩
        have H10 : Hid (SW w w10 k d3 (n + 1 + 1) w9.heap.size k3 d3 ∧ PairD d3 d3) := ⟨hS, HN.out⟩
        clear hS HC HN
        go_wp2_with fail
        go_roundw
        case rel => exact ⟨i + 1, by omega, by go_num, d3, d3, k3, _, _, by omega, hpf, rfl, H10.out⟩
        case measure => simp [intOf]; omega
      · have hm5 : ((i : Int).tmod 5 == 4) = false := by
          rw [Int.tmod_eq_emod_of_nonneg (by omega)]
          simp; omega
        go_wp2_with fail
        repeat (intro Z hZ; go_wp2_with (fail))
        go_roundw
        case rel => exact ⟨i + 1, by omega, by go_num, d2, s, k2, B2, n + 1, by omega, hpl', rfl, H8.out⟩
        case measure => simp [intOf]; omega
    · obtain rfl : i = L1.length := by omega
      have hii : ¬ (L1.length : Int) < (L1.length : Int) := by omega
      have HC := Lib.hid HJ.out.1.dl.clone
      clear hlt
      go_wp2_with fail
      refine HC.out.mono ?_
      rintro e w6 ⟨k3, rfl, hS, hb6⟩
      have H6 : Hid (SW w w6 k d n wr.heap.size k3 d ∧ DiskAt w6 B2 k2 s ∧ PairD d s) := ⟨hS, HJ.out.1.at2.below hb6, HJ.out.2⟩
      have HAP := Lib.hid HJ.out.1.ap
      clear hS hb6 HC HJ
      cases all with
      | true =>
        generalize wr.heap.size = B3 at H6
        go_upto_region 20 with (fail)
        generalize hW7 : World.alloc w6 (.cells _ _) = W7
        obtain ⟨ba7, hz7, hB7⟩ := fresh1 hW7
        clear hW7
        have H7 : Hid (SW w W7 k d n B3 k3 d ∧ (d).down = false ∧ (d).blocks.length = 8 ∧ (d.crash ⟨0, 18446744073709551615, 0⟩).blocks.length = 8 ∧ (d.crash ⟨0, 18446744073709551615, 0⟩).down = true ∧ ∀ i, i < 8 → ((d.crash ⟨0, 18446744073709551615, 0⟩).blocks.getD i default).now = ((d).blocks.getD i default).now) := ⟨H6.out.1.below hB7, H6.out.2.2.whole.calm.down, H6.out.2.2.whole.calm.len, H6.out.2.2.whole.crash (by omega) _ rfl⟩
        have hfa := ba7.c3
        have HC := Lib.hid (H7.out.1.dl.crash ⟨0, 18446744073709551615, 0⟩ (by decide))
        clear ba7 hB7 HAP H6
        generalize d.crash ⟨0, 18446744073709551615, 0⟩ = d3 at HC H7
        go_wp2_with fail
        refine HC.out.mono ?_
        rintro e w8 ⟨rfl, hL8, hK8⟩
        have H8 : Hid (SW w w8 k d3 n B3 k3 d ∧ (d).down = false ∧ (d).blocks.length = 8 ∧ d3.blocks.length = 8 ∧ d3.down = true ∧ ∀ i, i < 8 → (d3.blocks.getD i default).now = ((d).blocks.getD i default).now) := ⟨H7.out.1.disk hL8 hK8, H7.out.2⟩
        clear hL8 hK8 HC H7 hfa
        have hwhy : d3.why 0 = 6 := by unfold DS.why; rw [if_pos H8.out.2.2.2.2.1]
        have hrb := read_bad w8 _ k d3 H8.out.1.dl.at_ 0 (by rw [hwhy]; decide)
        rw [hwhy] at hrb
        have HRB := Lib.hid hrb
        have hup := H8.out.1.dl.up
        rw [H8.out.2.2.2.2.1] at hup
        have HU := Lib.hid hup
        clear hwhy hrb hup
        go_wp2_with fail
        refine HRB.out.mono ?_
        rintro e w9 ⟨rfl, rfl⟩
        go_wp2_with fail
        refine HU.out.mono ?_
        rintro e w9 ⟨rfl, hL9, hK9⟩
        have H9 : Hid (SW w w9 k { d3 with down := false } n B3 k3 d ∧ (d).down = false ∧ (d).blocks.length = 8 ∧ d3.blocks.length = 8 ∧ ∀ i, i < 8 → (d3.blocks.getD i default).now = ((d).blocks.getD i default).now) := ⟨H8.out.1.disk hL9 hK9, H8.out.2.1, H8.out.2.2.1, H8.out.2.2.2.1, H8.out.2.2.2.2.2⟩
        clear hL9 hK9 HU HRB H8
        go_wp2_with fail
        go_loopw [80] (fun iv wr => ∃ i : Nat, i ≤ 8 ∧ iv = .int .i64 i ∧ Hid (SW w wr k { d3 with down := false } n B3 k3 d)) (fun iv _ => 8 - (intOf iv).toNat)
        case atStart => exact ⟨0, by omega, rfl, H9.out.1⟩
        case round =>
          obtain ⟨i, hi, rfl, HJ⟩ := hrel
          by_cases hlt : i < 8
          · have hii : (i : Int) < 8 := by omega
            have hb3 : i < d3.blocks.length := by rw [H9.out.2.2.2.1]; exact hlt
            have hbs : i < (d).blocks.length := by rw [H9.out.2.2.1]; exact hlt
            have HR1 := Lib.hid (read_ok wr _ k _ HJ.out.dl.at_ i (show i < d3.blocks.length from hb3) rfl)
            have heq : d3.blocks[i].now = (d).blocks[i].now := by
              have := H9.out.2.2.2.2 i hlt
              simpa [hb3, hbs] using this
            go_wp2_with fail
            refine HR1.out.mono ?_
            rintro e w10 ⟨A10, c10, rfl, ho10, hb10⟩
            have H10 := Lib.hid (HJ.out.below hb10)
            have HO10 := Lib.hid ho10
            have HR2 := Lib.hid (read_ok w10 _ _ _ H10.out.at2 i hbs H9.out.2.1)
            clear ho10 hb10 HR1 HJ
            go_wp2_with fail
            refine HR2.out.mono ?_
            rintro e w11 ⟨A11, c11, rfl, ho11, hb11⟩
            have H11 := Lib.hid (H10.out.below hb11)
            have hcv1 := run_string_bytes w11 c10 ((HO10.out.below hb11).row)
            have hcv2 := run_string_bytes w11 c11 ho11.row
            rw [show ({ d3 with down := false } : DS).blocks[i].now = (d).blocks[i].now from heq, ((d).blocks[i].now).h] at hcv1
            rw [((d).blocks[i].now).h] at hcv2
            unfold txt at hcv1 hcv2
            clear ho11 hb11 HO10 H10 HR2 heq hb3
            generalize (d).blocks[i].now.l = x at hcv1 hcv2
            go_wp2_with fail
            go_roundw
            case rel => exact ⟨i + 1, by omega, by go_num, H11.out⟩
            case measure => simp [intOf]; omega
          · obtain rfl : i = 8 := by omega
            have hii : ¬ ((8 : Nat) : Int) < 8 := by omega
            go_wp2_with fail
            go_ret
            exact ⟨rfl, HJ.out.dl.bel⟩
      | false =>
        go_upto_region 20 with (fail)
        generalize hW7 : World.alloc w6 (.cells _ _) = W7
        obtain ⟨ba7, hz7, hB7⟩ := fresh1 hW7
        clear hW7
        have H7 : Hid (SW w W7 k d n B2 k2 s ∧ (s).down = false ∧ (s).blocks.length = 8 ∧ (d.crash ⟨0, 0, 0⟩).blocks.length = 8 ∧ (d.crash ⟨0, 0, 0⟩).down = true ∧ ∀ i, i < 8 → ((d.crash ⟨0, 0, 0⟩).blocks.getD i default).now = ((s).blocks.getD i default).now) := ⟨⟨H6.out.1.dl.below hB7, H6.out.2.1.below hB7, HAP.out⟩, H6.out.2.2.down, H6.out.2.2.len, (H6.out.2.2.whole.calm.crash0 _ rfl).1, (H6.out.2.2.whole.calm.crash0 _ rfl).2.1, fun i hi => ((H6.out.2.2.whole.calm.crash0 _ rfl).2.2 i hi).trans (H6.out.2.2.same i hi).symm⟩
        have hfa := ba7.c3
        have HC := Lib.hid (H7.out.1.dl.crash ⟨0, 0, 0⟩ (by decide))
        clear ba7 hB7 HAP H6
        generalize d.crash ⟨0, 0, 0⟩ = d3 at HC H7
        go_wp2_with fail
        refine HC.out.mono ?_
        rintro e w8 ⟨rfl, hL8, hK8⟩
        have H8 : Hid (SW w w8 k d3 n B2 k2 s ∧ (s).down = false ∧ (s).blocks.length = 8 ∧ d3.blocks.length = 8 ∧ d3.down = true ∧ ∀ i, i < 8 → (d3.blocks.getD i default).now = ((s).blocks.getD i default).now) := ⟨H7.out.1.disk hL8 hK8, H7.out.2⟩
        clear hL8 hK8 HC H7 hfa
        have hwhy : d3.why 0 = 6 := by unfold DS.why; rw [if_pos H8.out.2.2.2.2.1]
        have hrb := read_bad w8 _ k d3 H8.out.1.dl.at_ 0 (by rw [hwhy]; decide)
        rw [hwhy] at hrb
        have HRB := Lib.hid hrb
        have hup := H8.out.1.dl.up
        rw [H8.out.2.2.2.2.1] at hup
        have HU := Lib.hid hup
        clear hwhy hrb hup
        go_wp2_with fail
        refine HRB.out.mono ?_
        rintro e w9 ⟨rfl, rfl⟩
        go_wp2_with fail
        refine HU.out.mono ?_
        rintro e w9 ⟨rfl, hL9, hK9⟩
        have H9 : Hid (SW w w9 k { d3 with down := false } n B2 k2 s ∧ (s).down = false ∧ (s).blocks.length = 8 ∧ d3.blocks.length = 8 ∧ ∀ i, i < 8 → (d3.blocks.getD i default).now = ((s).blocks.getD i default).now) := ⟨H8.out.1.disk hL9 hK9, H8.out.2.1, H8.out.2.2.1, H8.out.2.2.2.1, H8.out.2.2.2.2.2⟩
        clear hL9 hK9 HU HRB H8
        go_wp2_with fail
        go_loopw [80] (fun iv wr => ∃ i : Nat, i ≤ 8 ∧ iv = .int .i64 i ∧ Hid (SW w wr k { d3 with down := false } n B2 k2 s)) (fun iv _ => 8 - (intOf iv).toNat)
        case atStart => exact ⟨0, by omega, rfl, H9.out.1⟩
        case round =>
          obtain ⟨i, hi, rfl, HJ⟩ := hrel
          by_cases hlt : i < 8
          · have hii : (i : Int) < 8 := by omega
            have hb3 : i < d3.blocks.length := by rw [H9.out.2.2.2.1]; exact hlt
            have hbs : i < (s).blocks.length := by rw [H9.out.2.2.1]; exact hlt
            have HR1 := Lib.hid (read_ok wr _ k _ HJ.out.dl.at_ i (show i < d3.blocks.length from hb3) rfl)
            have heq : d3.blocks[i].now = (s).blocks[i].now := by
              have := H9.out.2.2.2.2 i hlt
              simpa [hb3, hbs] using this
            go_wp2_with fail
            refine HR1.out.mono ?_
            rintro e w10 ⟨A10, c10, rfl, ho10, hb10⟩
            have H10 := Lib.hid (HJ.out.below hb10)
            have HO10 := Lib.hid ho10
            have HR2 := Lib.hid (read_ok w10 _ _ _ H10.out.at2 i hbs H9.out.2.1)
            clear ho10 hb10 HR1 HJ
            go_wp2_with fail
            refine HR2.out.mono ?_
            rintro e w11 ⟨A11, c11, rfl, ho11, hb11⟩
            have H11 := Lib.hid (H10.out.below hb11)
            have hcv1 := run_string_bytes w11 c10 ((HO10.out.below hb11).row)
            have hcv2 := run_string_bytes w11 c11 ho11.row
            rw [show ({ d3 with down := false } : DS).blocks[i].now = (s).blocks[i].now from heq, ((s).blocks[i].now).h] at hcv1
            rw [((s).blocks[i].now).h] at hcv2
            unfold txt at hcv1 hcv2
            clear ho11 hb11 HO10 H10 HR2 heq hb3
            generalize (s).blocks[i].now.l = x at hcv1 hcv2
            go_wp2_with fail
            go_roundw
            case rel => exact ⟨i + 1, by omega, by go_num, H11.out⟩
            case measure => simp [intOf]; omega
          · obtain rfl : i = 8 := by omega
            have hii : ¬ ((8 : Nat) : Int) < 8 := by omega
            go_wp2_with fail
            go_ret
            exact ⟨rfl, HJ.out.dl.bel⟩
end Go.Proofs.Ythbanhedjfpmaaa
