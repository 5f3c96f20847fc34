/-
  Texts of a proof, one behind the other (each with its own head).
-/
import Derived.Test.YtpahkaffknnjhaaGreatDoorPartBpcldggin
import Derived.Deep.Slices
import Derived.Deep.SlicePairs
import Derived.OpenShut
import Derived.ChangeSlices
import Derived.SliceStrings
import Derived.Lib.Bytes
import Derived.Lib.Bytealg
import Derived.IntWalk
import Derived.Laws.NewFold
section
namespace Go.Proofs.YtpahkaffknnjhaaGreatDoor
set_option linter.unusedSimpArgs false
set_option linter.unusedVariables false
open Go.RowKit
theorem max_xor {f : Nat} (h : f < 18446744073709551616) : 18446744073709551615 ^^^ f = 18446744073709551615 - f := by
  have e1 : (18446744073709551615 : Nat) = 2 ^ 64 - 1 := by decide
  have e2 : 18446744073709551615 - f = 2 ^ 64 - (f + 1) := by
    have : (2 : Nat) ^ 64 = 18446744073709551616 := by decide
    omega
  rw [e2, e1]
  apply Nat.eq_of_testBit_eq
  intro i
  rw [Nat.testBit_xor, Nat.testBit_two_pow_sub_one, Nat.testBit_two_pow_sub_succ h]
  by_cases hi : i < 64
  · simp [hi]
  · have : f.testBit i = false := Nat.testBit_lt_two_pow (Nat.lt_of_lt_of_le (show f < 2 ^ 64 from h) (Nat.pow_le_pow_right (by decide) (Nat.le_of_not_lt hi)))
    simp [hi, this]
theorem not_u64 {f : Nat} (h : f < 18446744073709551616) : Go.Op.unary .xor (.int .u64 (f : Int)) = pure (.int .u64 ((18446744073709551615 - f : Nat) : Int)) := by
  have h1 := u64_xor_nat 18446744073709551615 f (by decide) h
  rw [max_xor h] at h1
  rw [← h1]
  rfl
set_option maxRecDepth 20000 in
set_option maxHeartbeats 1000000 in
theorem kbits_any (w : World) (f : Nat) (hf : f < two64) : Calls Tryz.prog 58 #[.float .f64 f] w fun e w' => e = .returned (.int .u64 (Key.kbits f : Nat)) ∧ w' = w := by
  have HF := Lib.hid hf
  have h1 : (f : Int) < 18446744073709551616 := by have := two64_eq; omega
  go_enter Tryz.func58, Tryz.ntmps58
  have hx : (Extern.MathFloatBits.float64bits #[.float .f64 f]).run Tryz.prog w = .ok (.int .u64 (f : Int)) w := rfl
  go_wp2_with fail
  rw [run_callFunc_extern Tryz.func100 (by kernel_rfl) (by kernel_rfl) (by kernel_rfl) (e := Extern.MathFloatBits.float64bits) (by kernel_rfl), hx]
  simp only [Result.andThen]
  rw [Oper.upon_value]
  have hun := not_u64 (show f < 18446744073709551616 from hf)
  by_cases ht : 9223372036854775808 ≤ f
  · have hi : (9223372036854775808 : Int) ≤ (f : Int) := by omega
    have HK : Hid (Key.kbits f = 18446744073709551615 - f) := by show _ = _; unfold Key.kbits; rw [if_pos ht]
    clear ht hf
    generalize 18446744073709551615 - f = m at hun HK
    go_wp2_with fail
    go_ret
    exact ⟨by rw [HK.out]; rfl, rfl⟩
  · have hi : ¬ (9223372036854775808 : Int) ≤ (f : Int) := by omega
    have HK : Hid (Key.kbits f = f + 9223372036854775808) := by show _ = _; unfold Key.kbits; rw [if_neg ht]
    have HO := Lib.hid (u64_or_nat f 9223372036854775808 hf (by decide))
    have HT := Lib.hid (or_top (n := f) (by omega))
    clear ht hf hun
    go_wp2_with fail
    go_ret
    refine ⟨?_, rfl⟩
    show Ending.returned (.int .u64 (Go.bits .or .u64 (f : Int) 9223372036854775808)) = _
    rw [show (9223372036854775808 : Int) = ((9223372036854775808 : Nat) : Int) from rfl, HO.out, HT.out, HK.out]
theorem run_str_bytes2 (w : World) (l : List UInt8) : ∃ c W, (convert 9 32 (txt l)).run Tryz.prog w = .ok (.slice (some ⟨w.heap.size, 0, none⟩) l.length c) W ∧ BRow W (some ⟨w.heap.size, 0, none⟩) l ∧ Below w.heap.size w W ∧ w.heap.size < W.heap.size ∧ l.length ≤ c ∧ ∀ j, j < l.length → W.frozen? ⟨w.heap.size, j, none⟩ = false := by
  have h := run_bytes_of_string (P := Tryz.prog) w 9 32 5 ⟨l.toArray⟩ Tryz.underlying9 Tryz.underlying32 Tryz.underlying5
  have hs : (ByteArray.mk l.toArray).size = l.length := by simp [ByteArray.size]
  rw [hs] at h
  have hge := grownCap_ge w l.length 0 5
  generalize hC : grownCap w l.length 0 5 = cap at h hge
  clear hC
  have hB : bytesRow ⟨l.toArray⟩ cap = (l.map bv ++ List.replicate (cap - l.length) (Value.int .u8 0)).toArray := by
    unfold bytesRow
    rw [hs]
    apply Array.ext'
    simp [bv]
  refine ⟨cap, _, h, ?_, (Below.refl _ w).drewR.alloc (Nat.le_refl _) _, by simp [World.alloc], hge, fun j hj => ?_⟩
  · intro hl
    refine ⟨w.heap.size, 0, rfl, by simp [World.alloc], fun j hj => ?_⟩
    have hjl : j < l.length := by simpa using hj
    unfold World.cell? World.alloc
    have hd : w.drew.heap = w.heap := rfl
    simp [hB, hd]
    rw [List.getElem?_append_left (by simpa using hjl)]
    simp [hjl]
  · unfold World.frozen? World.alloc
    have hd : w.drew.heap = w.heap := rfl
    simp [hB, hd]
    omega
set_option maxRecDepth 20000 in
set_option maxHeartbeats 1000000 in
theorem breplaceall_any (w : World) (A B C : Option Addr) (c d k : Nat) (l : List UInt8) (hr : BRow w A l) (hs : BRow w B [0]) (hy : BRow w C [0, 255]) (hl : l.length ≤ 1000000) (hlc : l.length ≤ c) :
    Calls Tryz.prog 59 #[.slice A l.length c, .slice B 1 d, .slice C 2 k] w (RetB w (Key.esc l)) := by
  have HC := Lib.hid (breplace_any w A B C c d k l hr hs hy hl hlc)
  go_enter Tryz.func59, Tryz.ntmps59
  go_wp2_with fail
  refine HC.out.mono ?_
  rintro e w1 ⟨A1, c1, rfl, ho, hb⟩
  go_wp2_with fail
  go_ret
  exact ⟨A1, c1, rfl, ho, hb⟩
set_option maxRecDepth 20000 in
set_option maxHeartbeats 4000000 in
theorem part_any (w : World) (v : Va) (hv : v.ok) (hs : v.s.length ≤ 1000) : Calls Tryz.prog 31 #[v.v] w (RetR w (Key.part (Key.clean v))) := by
  have HV := Lib.hid hv
  have HVC := Lib.hid (Key.clean_ok hv)
  have HS := Lib.hid hs
  clear hv hs
  go_enter Tryz.func31, Tryz.ntmps31
  go_upto_region 1 with (refine wpList_box_va rfl (.tmp 0) rfl v rfl ?_; intro W1 hb1 hz1 hB1)
  go_wp2_with (refine wpList_load_va rfl (.tmp 1) rfl w.heap.size rfl hb1 ?_)
  refine (clean_any _ v HV.out).mono ?_
  rintro e w2 ⟨rfl, hB2⟩
  have hb2 := hb1.below hB2
  have hB2' := hB1.trans (hB2.mono hB1.size)
  have hz2 := hB2.size
  clear hb1 hB1 hB2
  go_upto_region 2 with (refine wpList_store_va rfl rfl (.tmp 1) (.tmp 5) rfl w.heap.size rfl (Key.clean v) rfl hb2 ?_; intro w3 hb3 hg3)
  have hB3 := below_of_grown hB2' hg3 (Nat.le_refl _) (by omega)
  have hz3 := hg3.size
  clear hB2' hg3 hb2
  obtain ⟨c0, c1, c2, c3, -, -, -, -, hlt⟩ := Blk.c4 hb3
  have HB3 := Lib.hid hB3
  clear hB3 hb3
  by_cases k1 : v.k = 1
  · have HC := Lib.hid (Va.clean1 k1)
    simp only [HC.out] at c0 c1 c2 c3
    go_wp2_with fail
    rw [id_xor HV.out.n1 HV.out.n2]
    have HL : Hid (Key.idn v.n < two64) := Key.idn_lt HV.out.n1 HV.out.n2
    have H4 : Hid (BRow (w3.alloc (.cells #[.int .u8 1] 5)) (some ⟨w3.heap.size, 0, none⟩) [1] ∧ Below w.heap.size w (w3.alloc (.cells #[.int .u8 1] 5))) := ⟨BRow.one _ _ _ _ rfl, HB3.out.trans ((Below.alloc1 w3 _).mono HB3.out.size)⟩
    have HP : Hid (Key.part (Key.clean v) = [1] ++ Wal.hi8 (Key.idn v.n)) := by show _ = _; rw [HC.out, Key.part_int rfl]; rfl
    clear c0 c1 c2 c3 hlt
    generalize World.alloc w3 _ = w4 at H4 ⊢
    refine (khigh_any _ _ HL.out).mono ?_
    rintro e w5 ⟨A5, c5, rfl, hr5, -, hb5⟩
    have H5 := Lib.hid (And.intro (H4.out.1.below hb5) (And.intro (H4.out.2.trans (hb5.mono H4.out.2.size)) hr5))
    clear hr5 hb5 H4
    go_wp2_with fail
    refine (bconcat2 _ _ _ ⟨some ⟨w3.heap.size, 0, none⟩, 1, [1]⟩ ⟨A5, c5, Wal.hi8 (Key.idn v.n)⟩ (Row.new _ _ _) ⟨H5.out.1.alloc _, ?_⟩ ⟨H5.out.2.2.alloc _, ?_⟩ ?_).mono ?_
    · show 1 ≤ _; decide
    · simp [Wal.hi8_length]
    · simp [Wal.hi8_length]
    rintro e w6 ⟨A6, c6, rfl, ho6, hb6⟩
    go_wp2_with fail
    go_ret
    refine ⟨A6, c6, ?_, ?_, ?_, ?_⟩
    · rw [HP.out]; rfl
    · rw [HP.out]; exact ho6.row
    · rw [HP.out]; exact ho6.cap
    · exact H5.out.2.1.trans (((Below.alloc1 w5 _).then hb6).mono H5.out.2.1.size)
  by_cases k2 : v.k = 2
  · have HC := Lib.hid (Va.clean2 k2)
    simp only [HC.out] at c0 c1 c2 c3
    have HF : Hid (Key.real1 v.f < two64) := Key.real1_lt HV.out.f1
    generalize hf : Key.real1 v.f = f at HC HF c0 c1 c2 c3
    have HFF := Lib.hid hf
    clear hf
    go_wp2_with fail
    refine (isnan_any _ f HF.out).mono ?_
    rintro e wq ⟨rfl, hwq⟩
    rw [hwq]
    clear hwq wq
    by_cases hn : fnan f
    · have hd : decide (fnan f) = true := by simp [hn]
      have HP : Hid (Key.part (Key.clean v) = [1] ++ Wal.hi8 18446744073709551615) := by show _ = _; rw [HC.out, Key.part_real rfl]; unfold Key.pbits; rw [if_pos hn]; rfl
      rw [hd]
      clear hd hn
      go_wp2_with fail
      have H4 : Hid (BRow (w3.alloc (.cells #[.int .u8 1] 5)) (some ⟨w3.heap.size, 0, none⟩) [1] ∧ Below w.heap.size w (w3.alloc (.cells #[.int .u8 1] 5))) := ⟨BRow.one _ _ _ _ rfl, HB3.out.trans ((Below.alloc1 w3 _).mono HB3.out.size)⟩
      clear c0 c1 c2 c3 hlt
      generalize World.alloc w3 _ = w4 at H4 ⊢
      refine (khigh_any _ 18446744073709551615 (by decide)).mono ?_
      rintro e w5 ⟨A5, c5, rfl, hr5, -, hb5⟩
      have H5 := Lib.hid (And.intro (H4.out.1.below hb5) (And.intro (H4.out.2.trans (hb5.mono H4.out.2.size)) hr5))
      clear hr5 hb5 H4
      go_wp2_with fail
      refine (bconcat2 _ _ _ ⟨some ⟨w3.heap.size, 0, none⟩, 1, [1]⟩ ⟨A5, c5, Wal.hi8 18446744073709551615⟩ (Row.new _ _ _) ⟨H5.out.1.alloc _, ?_⟩ ⟨H5.out.2.2.alloc _, ?_⟩ ?_).mono ?_
      · show 1 ≤ _; decide
      · simp [Wal.hi8_length]
      · simp [Wal.hi8_length]
      rintro e w6 ⟨A6, c6, rfl, ho6, hb6⟩
      go_wp2_with fail
      go_ret
      refine ⟨A6, c6, ?_, ?_, ?_, ?_⟩
      · rw [HP.out]; rfl
      · rw [HP.out]; exact ho6.row
      · rw [HP.out]; exact ho6.cap
      · exact H5.out.2.1.trans (((Below.alloc1 w5 _).then hb6).mono H5.out.2.1.size)
    · have hd : decide (fnan f) = false := by simp [hn]
      have HP : Hid (Key.part (Key.clean v) = [1] ++ Wal.hi8 (Key.kbits f)) := by show _ = _; rw [HC.out, Key.part_real rfl]; unfold Key.pbits; rw [if_neg hn]; rfl
      have HK : Hid (Key.kbits f < two64) := Nat.lt_trans (Key.kbits_max HF.out hn) (by decide)
      rw [hd]
      clear hd hn
      go_wp2_with fail
      refine (kbits_any _ f HF.out).mono ?_
      rintro e wq ⟨rfl, hwq⟩
      rw [hwq]
      clear hwq
      go_wp2_with fail
      have H4 : Hid (BRow (w3.alloc (.cells #[.int .u8 1] 5)) (some ⟨w3.heap.size, 0, none⟩) [1] ∧ Below w.heap.size w (w3.alloc (.cells #[.int .u8 1] 5))) := ⟨BRow.one _ _ _ _ rfl, HB3.out.trans ((Below.alloc1 w3 _).mono HB3.out.size)⟩
      clear c0 c1 c2 c3 hlt
      generalize World.alloc w3 _ = w4 at H4 ⊢
      refine (khigh_any _ _ HK.out).mono ?_
      rintro e w5 ⟨A5, c5, rfl, hr5, -, hb5⟩
      have H5 := Lib.hid (And.intro (H4.out.1.below hb5) (And.intro (H4.out.2.trans (hb5.mono H4.out.2.size)) hr5))
      clear hr5 hb5 H4
      go_wp2_with fail
      refine (bconcat2 _ _ _ ⟨some ⟨w3.heap.size, 0, none⟩, 1, [1]⟩ ⟨A5, c5, Wal.hi8 (Key.kbits f)⟩ (Row.new _ _ _) ⟨H5.out.1.alloc _, ?_⟩ ⟨H5.out.2.2.alloc _, ?_⟩ ?_).mono ?_
      · show 1 ≤ _; decide
      · simp [Wal.hi8_length]
      · simp [Wal.hi8_length]
      rintro e w6 ⟨A6, c6, rfl, ho6, hb6⟩
      go_wp2_with fail
      go_ret
      refine ⟨A6, c6, ?_, ?_, ?_, ?_⟩
      · rw [HP.out]; rfl
      · rw [HP.out]; exact ho6.row
      · rw [HP.out]; exact ho6.cap
      · exact H5.out.2.1.trans (((Below.alloc1 w5 _).then hb6).mono H5.out.2.1.size)
  by_cases k3 : v.k = 3
  · have HC := Lib.hid (Va.clean3 k3)
    have HP : Hid (Key.part (Key.clean v) = [1] ++ (Key.esc v.s ++ [0, 0])) := by show _ = _; rw [HC.out, Key.part_text rfl]; rfl
    simp only [HC.out] at c0 c1 c2 c3
    obtain ⟨cb, Wb, hcvb, hrb, hbb, -, hcb, -⟩ := run_str_bytes2 w3 v.s
    have HEL : Hid ((Key.esc v.s).length ≤ 2000) := Nat.le_trans (Key.esc_length v.s) (by have := HS.out; omega)
    go_wp2_with fail
    clear c0 c1 c2 c3 hlt hcvb
    have h1 : BRow (Wb.alloc (.cells #[.int .u8 0] 5)) (some ⟨Wb.heap.size, 0, none⟩) [0] := BRow.one _ _ _ _ rfl
    have h2 := (hrb.alloc (.cells #[.int .u8 0] 5))
    have hB1 : Below w.heap.size w (Wb.alloc (.cells #[.int .u8 0] 5)) := HB3.out.trans ((hbb.trans ((Below.alloc1 Wb _).mono hbb.size)).mono HB3.out.size)
    have hz1 : (Wb.alloc (.cells #[.int .u8 0] 5)).heap.size = Wb.heap.size + 1 := by simp
    rw [← hz1]
    generalize World.alloc Wb _ = w5 at h1 h2 hB1 hz1 ⊢
    have h3 : BRow (w5.alloc (.cells #[.int .u8 0, .int .u8 255] 5)) (some ⟨w5.heap.size, 0, none⟩) [0, 255] := Row.new w5 ([0, 255].map bv) _
    have H6 := Lib.hid (And.intro (h2.alloc (.cells #[.int .u8 0, .int .u8 255] 5)) (And.intro (h1.alloc (.cells #[.int .u8 0, .int .u8 255] 5)) (And.intro h3 (hB1.trans ((Below.alloc1 w5 (.cells #[.int .u8 0, .int .u8 255] 5)).mono hB1.size)))))
    clear h1 h2 h3 hB1 hrb hbb
    generalize World.alloc w5 _ = w6 at H6 ⊢
    refine (breplaceall_any w6 _ _ _ cb 1 2 v.s H6.out.1 H6.out.2.1 H6.out.2.2.1 (Nat.le_trans HS.out (by decide)) hcb).mono ?_
    rintro e w7 ⟨A7, c7, rfl, ho7, hb7⟩
    have H7 := Lib.hid (And.intro ho7.row (And.intro ho7.cap (H6.out.2.2.2.trans (hb7.mono H6.out.2.2.2.size))))
    clear ho7 hb7 H6
    go_wp2_with fail
    have h1 : BRow (w7.alloc (.cells #[.int .u8 1] 5)) (some ⟨w7.heap.size, 0, none⟩) [1] := BRow.one _ _ _ _ rfl
    have h2 := H7.out.1.alloc (.cells #[.int .u8 1] 5)
    have hB1 : Below w.heap.size w (w7.alloc (.cells #[.int .u8 1] 5)) := H7.out.2.2.trans ((Below.alloc1 w7 _).mono H7.out.2.2.size)
    have hz1 : (w7.alloc (.cells #[.int .u8 1] 5)).heap.size = w7.heap.size + 1 := by simp
    rw [← hz1]
    generalize World.alloc w7 _ = w8 at h1 h2 hB1 hz1 ⊢
    have h3 : BRow (w8.alloc (.cells #[.int .u8 0, .int .u8 0] 5)) (some ⟨w8.heap.size, 0, none⟩) [0, 0] := Row.new w8 ([0, 0].map bv) _
    have hz2 : (w8.alloc (.cells #[.int .u8 0, .int .u8 0] 5)).heap.size = w8.heap.size + 1 := by simp
    have H8 := Lib.hid (And.intro (h1.alloc (.cells #[.int .u8 0, .int .u8 0] 5)) (And.intro (h2.alloc (.cells #[.int .u8 0, .int .u8 0] 5)) (And.intro h3 (hB1.trans ((Below.alloc1 w8 (.cells #[.int .u8 0, .int .u8 0] 5)).mono hB1.size)))))
    clear h1 h2 h3 hB1
    rw [← hz2]
    generalize World.alloc w8 _ = w9 at H8 hz2 ⊢
    refine (bconcat3 _ _ _ ⟨some ⟨w7.heap.size, 0, none⟩, 1, [1]⟩ ⟨A7, c7, Key.esc v.s⟩ ⟨some ⟨w8.heap.size, 0, none⟩, 2, [0, 0]⟩ (Row.new _ _ _) ⟨H8.out.1.alloc _, ?_⟩ ⟨H8.out.2.1.alloc _, ?_⟩ ⟨H8.out.2.2.1.alloc _, ?_⟩ ?_).mono ?_
    · show 1 ≤ _; decide
    · have := HEL.out; show (Key.esc v.s).length ≤ 9223372036854775807; omega
    · show 2 ≤ _; decide
    · have := HEL.out; show 1 + (Key.esc v.s).length + 2 ≤ _; omega
    rintro e w10 ⟨A10, c10, rfl, ho10, hb10⟩
    go_wp2_with fail
    go_ret
    refine ⟨A10, c10, ?_, ?_, ?_, ?_⟩
    · have hl3 : ([1] ++ (Key.esc v.s ++ [0, 0]) : List UInt8).length = (Key.esc v.s).length + 2 + 1 := by simp
      rw [HP.out, hl3]; rfl
    · rw [HP.out]; exact ho10.row
    · rw [HP.out]; exact ho10.cap
    · exact H8.out.2.2.2.trans (((Below.alloc1 w9 _).then hb10).mono H8.out.2.2.2.size)
  by_cases k4 : v.k = 4
  · by_cases hn : v.n = 0
    · have HC : Hid (Key.clean v = ⟨4, 0, 0, []⟩) := by show _ = _; rw [Va.clean4 k4, if_pos hn]
      have HP : Hid (Key.part (Key.clean v) = [1, 0]) := by show _ = _; rw [HC.out, Key.part_bool rfl]; rfl
      simp only [HC.out] at c0 c1 c2 c3
      clear hn
      go_wp2_with fail
      go_ret
      refine ⟨some ⟨w3.heap.size, 0, none⟩, 2, ?_, ?_, ?_, HB3.out.trans ((Below.alloc1 w3 _).mono HB3.out.size)⟩
      · rw [HP.out]; rfl
      · rw [HP.out]; exact Row.new w3 (([1, 0] : List UInt8).map bv) _
      · rw [HP.out]; exact Nat.le_refl _
    · have HC : Hid (Key.clean v = ⟨4, 1, 0, []⟩) := by show _ = _; rw [Va.clean4 k4, if_neg hn]
      have HP : Hid (Key.part (Key.clean v) = [1, 1]) := by show _ = _; rw [HC.out, Key.part_bool rfl]; rfl
      simp only [HC.out] at c0 c1 c2 c3
      clear hn
      go_wp2_with fail
      go_ret
      refine ⟨some ⟨w3.heap.size, 0, none⟩, 2, ?_, ?_, ?_, HB3.out.trans ((Below.alloc1 w3 _).mono HB3.out.size)⟩
      · rw [HP.out]; rfl
      · rw [HP.out]; exact Row.new w3 (([1, 1] : List UInt8).map bv) _
      · rw [HP.out]; exact Nat.le_refl _
  · have HC := Lib.hid (Va.clean0 k1 k2 k3 k4)
    have HP : Hid (Key.part (Key.clean v) = [0]) := by show _ = _; rw [HC.out, Key.part_null rfl]
    simp only [HC.out] at c0 c1 c2 c3
    go_wp2_with fail
    go_ret
    refine ⟨some ⟨w3.heap.size, 0, none⟩, 1, ?_, ?_, ?_, HB3.out.trans ((Below.alloc1 w3 _).mono HB3.out.size)⟩
    · rw [HP.out]; rfl
    · rw [HP.out]; exact Row.new w3 (([0] : List UInt8).map bv) _
    · rw [HP.out]; exact Nat.le_refl _
end Go.Proofs.YtpahkaffknnjhaaGreatDoor
end

section
namespace Go.Proofs.YtpahkaffknnjhaaGreatDoor
set_option linter.unusedSimpArgs false
set_option linter.unusedVariables false
open Go.RowKit
theorem part_len (v : Va) (h : v.s.length ≤ 1000) : (Key.part (Key.clean v)).length ≤ 2003 := by
  have he := Key.esc_length v.s
  by_cases k1 : v.k = 1
  · rw [Va.clean1 k1, Key.part_int rfl]; simp [Key.id_length]
  by_cases k2 : v.k = 2
  · rw [Va.clean2 k2, Key.part_real rfl]; simp [Wal.hi8_length]
  by_cases k3 : v.k = 3
  · rw [Va.clean3 k3, Key.part_text rfl]; simp; omega
  by_cases k4 : v.k = 4
  · rw [Va.clean4 k4, Key.part_bool rfl]; simp
  · rw [Va.clean0 k1 k2 k3 k4, Key.part_null rfl]; simp
theorem key_len (L : List Va) (h : ∀ v ∈ L, v.s.length ≤ 1000) : (Key.key L).length ≤ 2003 * L.length := by
  induction L with
  | nil => simp [Key.key]
  | cons v L ih =>
    have h1 := part_len v (h v (by simp))
    have h2 := ih fun u hu => h u (by simp [hu])
    unfold Key.key at h2 ⊢
    rw [List.flatMap_cons, List.length_append, List.length_cons]
    omega
theorem wpList_load_va_at {w : World} {ops : Array Oper} {rest : List Oper} {o : Oper} {a : Act} {Q : Exit → Act → World → Prop} (hgd : o.guard = none) (x : Operand) (hop : o.op = .load 64 x) {b off : Nat} {L : List Va} (hr : ERow eVa w (some ⟨b, off, none⟩) L) {j : Nat} (hj : j < L.length) (hx : a.eval x = .pointer (some ⟨b, off + j * 4, none⟩))
    (h : wpList Tryz.prog ops Q rest (a.put o.dst L[j].v) w) : wpList Tryz.prog ops Q (o :: rest) a w :=
  wpList_load_va_row hgd x hop hr hj (fun b' o' e => by
    have e' := Option.some.inj e
    simp only [Addr.mk.injEq, and_true] at e'
    rw [hx, e'.1, e'.2]) h
end Go.Proofs.YtpahkaffknnjhaaGreatDoor
end

section
namespace Go.Proofs.YtpahkaffknnjhaaGreatDoor
set_option linter.unusedSimpArgs false
set_option linter.unusedVariables false
open Go.RowKit Go.Deep Go.WideShapes Go.ChangeShapes
section
variable {H : Type} {enc : TypeId × Value → H} {w : World} {base : Nat} {spare : Nat → Bool} {held : Bool} {fuel : Nat} {cs : List Value} {x : DataW H × List MemPlace}
theorem open_elems {α : Type} [Inhabited α] (E : Elem α) (hce : Tryz.prog.cellsOf E.e = E.sz) (Deep : α → Prop)
    (hopen : ∀ fuel cs x, DataW.trod enc Tryz.prog w base spare held fuel E.e cs = some x → cs.length = E.sz → ∃ a, cs = E.code a ∧ Deep a)
    (h : DataW.trod enc Tryz.prog w base spare held fuel E.t cs = some x) : ∃ A L c, cs = [.slice A (List.length L) c] ∧ ERow E w A L ∧ (∀ a ∈ L, Deep a) ∧ L.length ≤ c ∧ c ≤ maxLen := by
  rcases open_slice E.under h with ⟨rfl, _⟩ | ⟨a, len, cap, m, n, D, Pl, rfl, _, hl, hm, hmm, _, hx⟩
  · exact ⟨none, [], 0, rfl, ERow.nil, by simp, by simp, Nat.zero_le _⟩
  · have hlm : len ≤ m := by rw [hmm]; split <;> omega
    have each : ∀ i, i < len → ∃ y : α, (∀ k, k < E.sz → w.cell? (a.add (i * E.sz + k)) = (E.code y)[k]?) ∧ Deep y := by
      intro i hi
      obtain ⟨cs', h1, h2⟩ := hx i (by omega)
      rw [hce] at h1
      obtain ⟨_, hlen, hcell⟩ := World.cells?_some h1
      obtain ⟨y, rfl, hd⟩ := hopen _ _ _ h2 hlen
      refine ⟨y, fun k hk => ?_, hd⟩
      rw [← hcell k hk, add_add]
    obtain ⟨f, hf⟩ := choose_lt each
    refine ⟨some a, (List.range len).map f, cap, by simp, fun hpos => ?_, ?_, by simpa using hl, hm⟩
    · have hpos' : 0 < len := by simpa using hpos
      have h0 := (hf 0 hpos').1 0 E.pos
      have hl0 : 0 < (E.code (f 0)).length := by rw [E.len]; exact E.pos
      rw [List.getElem?_eq_getElem hl0] at h0
      obtain ⟨b, o, sp⟩ := a
      have hsp : sp = none := by simpa [Addr.add] using World.cell?_spot h0
      subst hsp
      refine ⟨b, o, rfl, by have := World.block_lt_of_cell? w _ h0; simpa [Addr.add] using this, fun j u hu => ?_⟩
      have hj := (List.getElem?_eq_some_iff.1 hu).1
      rw [Elem.cells_length] at hj
      have hj' : j < len * E.sz := by simpa using hj
      have hd : j / E.sz < len := Nat.div_lt_of_lt_mul (by rw [Nat.mul_comm]; exact hj')
      rw [E.cells_get' _ j hj] at hu
      have h2 := (hf (j / E.sz) hd).1 (j % E.sz) (Nat.mod_lt _ E.pos)
      rw [Nat.mul_comm, Nat.div_add_mod] at h2
      rw [Addr.add_lit] at h2
      rw [h2]
      simpa using hu
    · intro y hy
      obtain ⟨r, hr, rfl⟩ := List.mem_map.1 hy
      exact (hf r (List.mem_range.1 hr)).2
theorem open_i64 {t : TypeId} (ht : Tryz.prog.underlying t = some (.int .i64)) (h : DataW.trod enc Tryz.prog w base spare held fuel t cs = some x) : ∃ n : Int, cs = [.int .i64 n] ∧ -9223372036854775808 ≤ n ∧ n ≤ 9223372036854775807 := by
  obtain ⟨n, rfl, _, hw⟩ := DataW.trod_int ht h
  simp [Lit.wf, IntKind.min, IntKind.max, IntKind.signed, IntKind.bits] at hw
  exact ⟨n, rfl, hw.1, hw.2⟩
end
end Go.Proofs.YtpahkaffknnjhaaGreatDoor
end

section
namespace Go.Proofs.YtpahkaffknnjhaaGreatDoor
set_option linter.unusedSimpArgs false
set_option linter.unusedVariables false
open Go.RowKit Go.Deep Go.WideShapes Go.ChangeShapes
section
variable {H : Type} {enc : TypeId × Value → H} {w : World} {base : Nat} {spare : Nat → Bool} {held : Bool} {fuel : Nat} {cs : List Value} {x : DataW H × List MemPlace}
theorem trod_float {P : Program} {t : TypeId} {k : FloatKind} (ht : P.underlying t = some (.float k)) (h : DataW.trod enc P w base spare held fuel t cs = some x) : ∃ n, cs = [.float k n] ∧ (Lit.float k n).wf = true := by
  cases fuel with
  | zero => simp [DataW.trod] at h
  | succ n =>
    unfold DataW.trod at h
    rw [ht] at h
    split at h <;> simp_all
structure Va.In (v : Va) : Prop where
  ok : v.ok
  len : v.s.length ≤ maxLen
set_option maxRecDepth 20000 in
theorem open_va (h : DataW.trod enc Tryz.prog w base spare held fuel 64 cs = some x) (hlen : cs.length = 4) : ∃ v : Va, cs = eVa.code v ∧ v.In := by
  obtain ⟨xs, k, rfl, rfl, _, hxl, hfs⟩ := DataW.trod_struct Tryz.underlying64 h
  match xs, hxl, cs, hlen with
  | [y0, y1, y2, y3], _, [v0, v1, v2, v3], _ =>
    have g0 := hfs 0 _ rfl
    have g1 := hfs 1 _ rfl
    have g2 := hfs 2 _ rfl
    have g3 := hfs 3 _ rfl
    have q0 : Tryz.prog.cellsOf 3 = 1 := by kernel_rfl
    have q1 : Tryz.prog.cellsOf 2 = 1 := by kernel_rfl
    have q2 : Tryz.prog.cellsOf 62 = 1 := by kernel_rfl
    have q3 : Tryz.prog.cellsOf 9 = 1 := by kernel_rfl
    obtain ⟨n0, e0, b0⟩ := open_i64 Tryz.underlying3 (by simpa using g0)
    obtain ⟨n1, e1, b1⟩ := open_i64 Tryz.underlying2 (by simpa using g1)
    obtain ⟨n2, e2, b2⟩ := trod_float Tryz.underlying62 (by simpa using g2)
    obtain ⟨n3, e3, _, b3⟩ := DataW.trod_string Tryz.underlying9 (by simpa using g3)
    have e0' : v0 = .int .i64 n0 := by simpa [q0] using e0
    have e1' : v1 = .int .i64 n1 := by simpa [q0, q1] using e1
    have e2' : v2 = .float .f64 n2 := by simpa [q0, q1, q2] using e2
    have e3' : v3 = .string n3 := by simpa [q0, q1, q2, q3] using e3
    subst e0' e1' e2' e3'
    refine ⟨⟨n0, n1, n2, n3.data.toList⟩, ?_, ⟨b0.1, b0.2, b1.1, b1.2, ?_⟩, ?_⟩
    · show _ = [Value.int .i64 n0, .int .i64 n1, .float .f64 n2, .string ⟨n3.data.toList.toArray⟩]
      simp
    · have h : decide (n2 < 2 ^ 64) = true := b2
      exact of_decide_eq_true h
    · show n3.data.toList.length ≤ maxLen
      rw [Array.length_toList]
      exact b3
end
theorem slen_size (l : List UInt8) : (ByteArray.mk l.toArray).size = l.length := by simp [ByteArray.size]
end Go.Proofs.YtpahkaffknnjhaaGreatDoor
end

section
namespace Go.Proofs.YtpahkaffknnjhaaGreatDoor
set_option linter.unusedSimpArgs false
set_option linter.unusedVariables false
open Go.RowKit Go.Deep Go.WideShapes Go.ChangeShapes
inductive Nd where
  | mk (k : Int) (op : List UInt8) (lit : Va) (at_ : Int) (no : Bool) (ty : Int) (a : Option Addr) (args : List Nd) (c : Nat)
namespace Nd
def k : Nd → Int | .mk k _ _ _ _ _ _ _ _ => k
def op : Nd → List UInt8 | .mk _ op _ _ _ _ _ _ _ => op
def lit : Nd → Va | .mk _ _ lit _ _ _ _ _ _ => lit
def at_ : Nd → Int | .mk _ _ _ at_ _ _ _ _ _ => at_
def no : Nd → Bool | .mk _ _ _ _ no _ _ _ _ => no
def ty : Nd → Int | .mk _ _ _ _ _ ty _ _ _ => ty
def a : Nd → Option Addr | .mk _ _ _ _ _ _ a _ _ => a
def args : Nd → List Nd | .mk _ _ _ _ _ _ _ args _ => args
def c : Nd → Nat | .mk _ _ _ _ _ _ _ _ c => c
def cells (n : Nd) : List Value := [.int .i64 n.k, txt n.op, .int .i64 n.lit.k, .int .i64 n.lit.n, .float .f64 n.lit.f, txt n.lit.s, .int .i64 n.at_, .bool n.no, .int .i64 n.ty, .slice n.a n.args.length n.c]
def v (n : Nd) : Value := .agg n.cells.toArray
def nil : Nd := .mk 0 [] Key.nul 0 false 0 none [] 0
instance : Inhabited Nd := ⟨nil⟩
end Nd
def eNd : Elem Nd where
  e := 66
  t := 23
  sz := 10
  bytes := 112
  zero := Nd.nil.v
  code := fun x => x.cells
  pos := by decide
  few := by decide
  len := fun _ => rfl
  one := by
    intro x u hu
    simp [Nd.cells] at hu
    rcases hu with rfl | rfl | rfl | rfl | rfl | rfl | rfl | rfl | rfl | rfl <;> rfl
  zsz := rfl
  info := by kernel_rfl
  under := Tryz.underlying23
namespace Ev
open Key
def inB (x : Int) : Prop := -9223372036854775808 ≤ x ∧ x ≤ 9223372036854775807
def nth (l : List Va) (i : Nat) : Va := l.getD i nul
def evalK (row : List Va) (n : Nd) (vs : List Va) : Va :=
  if n.k = 1 then clean n.lit else
  if n.k = 2 then (if 0 ≤ n.at_ ∧ n.at_ < (row.length : Int) then clean (nth row n.at_.toNat) else nul) else
  if n.k = 3 then negV (nth vs 0) else
  if n.k = 4 then notV (nth vs 0) else
  if n.k = 5 then andV (nth vs 0) (nth vs 1) else
  if n.k = 6 then orV (nth vs 0) (nth vs 1) else
  if n.k = 7 then cmpV n.op (nth vs 0) (nth vs 1) else
  if n.k = 8 then arithV n.op (nth vs 0) (nth vs 1) else
  if n.k = 9 then boolV (((nth vs 0).k == 0) != n.no) else nul
mutual
def eval (row : List Va) : Nd → Va
  | .mk k op lit at_ no ty a args c => evalK row (.mk k op lit at_ no ty a args c) (evalL row args)
def evalL (row : List Va) : List Nd → List Va
  | [] => []
  | n :: l => eval row n :: evalL row l
end
theorem eval_eq (row : List Va) (n : Nd) : eval row n = evalK row n (evalL row n.args) := by cases n; rfl
theorem evalL_map (row : List Va) (l : List Nd) : evalL row l = l.map (eval row) := by
  induction l with
  | nil => rfl
  | cons n l ih => show eval row n :: evalL row l = _; rw [ih]; rfl
theorem evalL_get (row : List Va) (l : List Nd) (i : Nat) : nth (evalL row l) i = if h : i < l.length then eval row l[i] else nul := by
  unfold nth
  rw [evalL_map]
  split
  · next h => simp [List.getD, h]
  · next h => simp [List.getD, h]
end Ev
inductive NodeIn (w : World) : Nd → Prop
  | mk {n : Nd} : ERow eNd w n.a n.args → (∀ m ∈ n.args, NodeIn w m) → n.lit.ok → n.lit.s.length ≤ maxLen → Ev.inB n.k → Ev.inB n.at_ → n.args.length ≤ n.c → n.c ≤ maxLen → NodeIn w n
end Go.Proofs.YtpahkaffknnjhaaGreatDoor
end

section
namespace Go.Proofs.YtpahkaffknnjhaaGreatDoor
set_option linter.unusedSimpArgs false
set_option linter.unusedVariables false
open Go.RowKit
def eInt : Elem Int where
  e := 3
  t := 22
  sz := 1
  bytes := 8
  zero := .int .i64 0
  code := fun n => [.int .i64 n]
  pos := by decide
  few := by decide
  len := fun _ => rfl
  one := by
    intro x u hu
    simp at hu
    subst hu
    rfl
  zsz := rfl
  info := by kernel_rfl
  under := Tryz.underlying22
end Go.Proofs.YtpahkaffknnjhaaGreatDoor
end

section
namespace Go.Proofs.YtpahkaffknnjhaaGreatDoor
set_option linter.unusedSimpArgs false
set_option linter.unusedVariables false
open Go.RowKit Go.Maps Go.WideShapes Go.ChangeShapes
open Go.Deep in
theorem open_intlist {H : Type} {enc : TypeId × Value → H} {w : World} {base : Nat} {spare : Nat → Bool} {held : Bool} {fuel : Nat} {cs : List Value} {x : DataW H × List MemPlace} (h : DataW.trod enc Tryz.prog w base spare held fuel 22 cs = some x) : ∃ A L c, cs = [.slice A (List.length L) c] ∧ ERow eInt w A L ∧ (∀ n ∈ L, -9223372036854775808 ≤ n ∧ n ≤ 9223372036854775807) ∧ L.length ≤ c ∧ c ≤ maxLen :=
  open_elems eInt (by kernel_rfl) _ (fun fuel cs x h _ => by
    obtain ⟨n, rfl, h1, h2⟩ := open_i64 Tryz.underlying3 h
    exact ⟨n, rfl, h1, h2⟩) h
def IntsIn (w : World) (v : Value) : Prop := ∃ A c L, v = .slice A (List.length L) c ∧ ERow eInt w A L ∧ (∀ n ∈ L, -9223372036854775808 ≤ n ∧ n ≤ 9223372036854775807) ∧ L.length ≤ c ∧ c ≤ maxLen
set_option maxRecDepth 20000 in
theorem ints_in {H : Type} {enc : TypeId × Value → H} {w : World} {base : Nat} {v : Value} {d : DataW H} {p : List MemPlace}
    (hv : Value.okWide Tryz.prog w .any base 22 v) (h : DataW.Trod enc Tryz.prog w 0 (fun _ => true) true 22 v d p) : IntsIn w v := by
  obtain ⟨a0, len0, cap0, rfl⟩ := okWide_slice Tryz.underlying22 hv
  obtain ⟨fuel, hf⟩ := h
  obtain ⟨A, L, c, h1, h2, h3, h4, h5⟩ := open_intlist hf
  simp [Value.cells] at h1
  obtain ⟨rfl, rfl, rfl⟩ := h1
  exact ⟨_, _, L, rfl, h2, h3, h4, h5⟩
theorem int_at {w : World} {A : Option Addr} {L : List Int} (h : ERow eInt w A L) {i : Nat} (hi : i < L.length) : ∃ b o, A = some ⟨b, o, none⟩ ∧ b < w.heap.size ∧ w.cell? ⟨b, o + i, none⟩ = some (.int .i64 L[i]) := by
  obtain ⟨b, o, e, hb, hc⟩ := h.at_ hi
  have := hc 0 _ rfl
  simp only [eInt, Nat.mul_one, Nat.add_zero] at this
  exact ⟨b, o, e, hb, this⟩
end Go.Proofs.YtpahkaffknnjhaaGreatDoor
end

section
namespace Go.Proofs.YtpahkaffknnjhaaGreatDoor
set_option linter.unusedSimpArgs false
set_option linter.unusedVariables false
open Go.RowKit Go.Deep Go.WideShapes Go.ChangeShapes
section
variable {H : Type} {enc : TypeId × Value → H} {w : World} {base : Nat} {spare : Nat → Bool} {held : Bool} {fuel : Nat} {cs : List Value} {x : DataW H × List MemPlace}
theorem open_elems_lt {α : Type} [Inhabited α] (E : Elem α) (hce : Tryz.prog.cellsOf E.e = E.sz) (Deep : α → Prop)
    (hopen : ∀ f, f < fuel → ∀ cs x, DataW.trod enc Tryz.prog w base spare held f E.e cs = some x → cs.length = E.sz → ∃ a, cs = E.code a ∧ Deep a)
    (h : DataW.trod enc Tryz.prog w base spare held fuel E.t cs = some x) : ∃ A L c, cs = [.slice A (List.length L) c] ∧ ERow E w A L ∧ (∀ a ∈ L, Deep a) ∧ L.length ≤ c ∧ c ≤ maxLen := by
  rcases DataW.trod_slice E.under h with ⟨rfl, _⟩ | ⟨a, len, cap, elems, rest, n, hn, rfl, _, _, hl, hm, hlen, hel, _, _⟩
  · exact ⟨none, [], 0, rfl, ERow.nil, by simp, by simp, Nat.zero_le _⟩
  · have each : ∀ i, i < len → ∃ y : α, (∀ k, k < E.sz → w.cell? (a.add (i * E.sz + k)) = (E.code y)[k]?) ∧ Deep y := by
      intro i hi
      have h0 := hel i hi
      rw [List.getElem?_eq_getElem (by omega)] at h0
      obtain ⟨cs', h1, h2⟩ := Option.bind_eq_some_iff.1 h0
      rw [hce] at h1
      obtain ⟨_, hlen, hcell⟩ := World.cells?_some h1
      obtain ⟨y, rfl, hd⟩ := hopen n (by omega) _ _ h2 hlen
      refine ⟨y, fun k hk => ?_, hd⟩
      rw [← hcell k hk, add_add]
    obtain ⟨f, hf⟩ := choose_lt each
    refine ⟨some a, (List.range len).map f, cap, by simp, fun hpos => ?_, ?_, by simpa using hl, hm⟩
    · have hpos' : 0 < len := by simpa using hpos
      have h0 := (hf 0 hpos').1 0 E.pos
      have hl0 : 0 < (E.code (f 0)).length := by rw [E.len]; exact E.pos
      rw [List.getElem?_eq_getElem hl0] at h0
      obtain ⟨b, o, sp⟩ := a
      have hsp : sp = none := by simpa [Addr.add] using World.cell?_spot h0
      subst hsp
      refine ⟨b, o, rfl, by have := World.block_lt_of_cell? w _ h0; simpa [Addr.add] using this, fun j u hu => ?_⟩
      have hj := (List.getElem?_eq_some_iff.1 hu).1
      rw [Elem.cells_length] at hj
      have hj' : j < len * E.sz := by simpa using hj
      have hd : j / E.sz < len := Nat.div_lt_of_lt_mul (by rw [Nat.mul_comm]; exact hj')
      rw [E.cells_get' _ j hj] at hu
      have h2 := (hf (j / E.sz) hd).1 (j % E.sz) (Nat.mod_lt _ E.pos)
      rw [Nat.mul_comm, Nat.div_add_mod] at h2
      rw [Addr.add_lit] at h2
      rw [h2]
      simpa using hu
    · intro y hy
      obtain ⟨r, hr, rfl⟩ := List.mem_map.1 hy
      exact (hf r (List.mem_range.1 hr)).2
set_option maxRecDepth 20000 in
theorem open_node : ∀ (fuel : Nat) (cs : List Value) (x : DataW H × List MemPlace), DataW.trod enc Tryz.prog w base spare held fuel 66 cs = some x → cs.length = 10 → ∃ n : Nd, cs = eNd.code n ∧ NodeIn w n := by
  intro fuel
  induction fuel using Nat.strongRecOn with
  | ind fuel ih =>
  intro cs x h hlen
  obtain ⟨xs, k, hk, rfl, _, hxl, hfs⟩ := DataW.trod_struct Tryz.underlying66 h
  match xs, hxl, cs, hlen with
  | [y0, y1, y2, y3, y4, y5, y6], _, [v0, v1, v2, v3, v4, v5, v6, v7, v8, v9], _ =>
    have g0 := hfs 0 _ rfl
    have g1 := hfs 1 _ rfl
    have g2 := hfs 2 _ rfl
    have g3 := hfs 3 _ rfl
    have g4 := hfs 4 _ rfl
    have g5 := hfs 5 _ rfl
    have g6 := hfs 6 _ rfl
    have q0 : Tryz.prog.cellsOf 3 = 1 := by kernel_rfl
    have q1 : Tryz.prog.cellsOf 9 = 1 := by kernel_rfl
    have q2 : Tryz.prog.cellsOf 64 = 4 := by kernel_rfl
    have q3 : Tryz.prog.cellsOf 4 = 1 := by kernel_rfl
    have q4 : Tryz.prog.cellsOf 23 = 1 := by kernel_rfl
    simp [q0, q1, q2, q3, q4] at g0 g1 g2 g3 g4 g5 g6
    obtain ⟨n0, e0, b0⟩ := open_i64 Tryz.underlying3 g0
    obtain ⟨n1, e1, _, b1⟩ := DataW.trod_string Tryz.underlying9 g1
    obtain ⟨u, e2, b2⟩ := open_va g2 rfl
    obtain ⟨n3, e3, b3⟩ := open_i64 Tryz.underlying3 g3
    obtain ⟨n4, e4, _⟩ := DataW.trod_bool Tryz.underlying4 g4
    obtain ⟨n5, e5, b5⟩ := open_i64 Tryz.underlying3 g5
    obtain ⟨A, L, c, e6, hr, hin, hl, hm⟩ := open_elems_lt eNd (by kernel_rfl) (NodeIn w) (fun f hf cs x h h2 => ih f (by omega) cs x h h2) g6
    have e0' : v0 = .int .i64 n0 := by simpa using e0
    have e1' : v1 = .string n1 := by simpa using e1
    have e3' : v6 = .int .i64 n3 := by simpa using e3
    have e4' : v7 = .bool n4 := by simpa using e4
    have e5' : v8 = .int .i64 n5 := by simpa using e5
    have e6' : v9 = .slice A L.length c := by simpa using e6
    have e2' : [v2, v3, v4, v5] = [.int .i64 u.k, .int .i64 u.n, .float .f64 u.f, txt u.s] := e2
    simp only [List.cons.injEq, and_true] at e2'
    obtain ⟨rfl, rfl, rfl, rfl⟩ := e2'
    subst e0' e1' e3' e4' e5' e6'
    refine ⟨.mk n0 n1.data.toList u n3 n4 n5 A L c, ?_, NodeIn.mk hr hin b2.ok b2.len b0 b3 hl hm⟩
    show _ = [Value.int .i64 n0, .string ⟨n1.data.toList.toArray⟩, .int .i64 u.k, .int .i64 u.n, .float .f64 u.f, txt u.s, .int .i64 n3, .bool n4, .int .i64 n5, .slice A L.length c]
    simp
theorem open_nodes (h : DataW.trod enc Tryz.prog w base spare held fuel 23 cs = some x) : ∃ A L c, cs = [.slice A (List.length L) c] ∧ ERow eNd w A L ∧ (∀ n ∈ L, NodeIn w n) ∧ L.length ≤ c ∧ c ≤ maxLen :=
  open_elems eNd (by kernel_rfl) (NodeIn w) (fun fuel cs x h h2 => open_node fuel cs x h h2) h
end
structure So where
  at_ : Int
  desc : Bool
instance : Inhabited So := ⟨⟨0, false⟩⟩
def So.cells (s : So) : List Value := [.int .i64 s.at_, .bool s.desc]
def So.v (s : So) : Value := .agg s.cells.toArray
def eSo : Elem So where
  e := 164
  t := 24
  sz := 2
  bytes := 16
  zero := .agg #[.int .i64 0, .bool false]
  code := fun x => x.cells
  pos := by decide
  few := by decide
  len := fun _ => rfl
  one := by
    intro x u hu
    simp [So.cells] at hu
    rcases hu with rfl | rfl <;> rfl
  zsz := rfl
  info := by kernel_rfl
  under := Tryz.underlying24
structure Rw where
  a : Option Addr
  l : List Va
  c : Nat
instance : Inhabited Rw := ⟨⟨none, [], 0⟩⟩
def Rw.v (r : Rw) : Value := .slice r.a r.l.length r.c
def eRw : Elem Rw where
  e := 37
  t := 43
  sz := 1
  bytes := 24
  zero := .slice none 0 0
  code := fun x => [x.v]
  pos := by decide
  few := by decide
  len := fun _ => rfl
  one := by
    intro x u hu
    simp at hu
    subst hu
    rfl
  zsz := rfl
  info := by kernel_rfl
  under := Tryz.underlying43
structure RowIn (w : World) (r : Rw) : Prop where
  row : ERow eVa w r.a r.l
  ok : ∀ v ∈ r.l, Va.In v
  len : r.l.length ≤ r.c
  cap : r.c ≤ maxLen
section
variable {H : Type} {enc : TypeId × Value → H} {w : World} {base : Nat} {spare : Nat → Bool} {held : Bool} {fuel : Nat} {cs : List Value} {x : DataW H × List MemPlace}
set_option maxRecDepth 20000 in
theorem open_so (h : DataW.trod enc Tryz.prog w base spare held fuel 164 cs = some x) (hlen : cs.length = 2) : ∃ s : So, cs = eSo.code s ∧ Ev.inB s.at_ := by
  obtain ⟨xs, k, hk, rfl, _, hxl, hfs⟩ := DataW.trod_struct Tryz.underlying164 h
  match xs, hxl, cs, hlen with
  | [y0, y1], _, [v0, v1], _ =>
    have g0 := hfs 0 _ rfl
    have g1 := hfs 1 _ rfl
    have q0 : Tryz.prog.cellsOf 3 = 1 := by kernel_rfl
    have q3 : Tryz.prog.cellsOf 4 = 1 := by kernel_rfl
    simp [q0, q3] at g0 g1
    obtain ⟨n0, e0, b0⟩ := open_i64 Tryz.underlying3 g0
    obtain ⟨n1, e1, _⟩ := DataW.trod_bool Tryz.underlying4 g1
    have e0' : v0 = .int .i64 n0 := by simpa using e0
    have e1' : v1 = .bool n1 := by simpa using e1
    subst e0' e1'
    exact ⟨⟨n0, n1⟩, rfl, b0⟩
theorem open_sorts (h : DataW.trod enc Tryz.prog w base spare held fuel 24 cs = some x) : ∃ A L c, cs = [.slice A (List.length L) c] ∧ ERow eSo w A L ∧ (∀ s ∈ L, Ev.inB s.at_) ∧ L.length ≤ c ∧ c ≤ maxLen :=
  open_elems eSo (by kernel_rfl) (fun s => Ev.inB s.at_) (fun _ _ _ h h2 => open_so h h2) h
theorem open_row (h : DataW.trod enc Tryz.prog w base spare held fuel 37 cs = some x) : ∃ r : Rw, cs = eRw.code r ∧ RowIn w r := by
  obtain ⟨A, L, c, h1, h2, h3, h4, h5⟩ := open_elems eVa (by kernel_rfl) Va.In (fun fuel cs x h hlen => open_va h hlen) h
  exact ⟨⟨A, L, c⟩, h1, h2, h3, h4, h5⟩
theorem open_rows (h : DataW.trod enc Tryz.prog w base spare held fuel 43 cs = some x) : ∃ A L c, cs = [.slice A (List.length L) c] ∧ ERow eRw w A L ∧ (∀ r ∈ L, RowIn w r) ∧ L.length ≤ c ∧ c ≤ maxLen :=
  open_elems eRw (by kernel_rfl) (RowIn w) (fun _ _ _ h _ => open_row h) h
end
section
variable {H : Type} {enc : TypeId × Value → H} {w : World} {base : Nat} {v : Value} {d : DataW H} {p : List MemPlace}
end
end Go.Proofs.YtpahkaffknnjhaaGreatDoor
end

section
namespace Go.Proofs.YtpahkaffknnjhaaGreatDoor
set_option linter.unusedSimpArgs false
set_option linter.unusedVariables false
open Go.RowKit
theorem Va.dclean1 {a : Va} (h : a.k = 1) : Key.dclean a = ⟨1, a.n, 0, []⟩ := by unfold Key.dclean Key.cleanF; rw [if_pos h]
theorem Va.dclean2 {a : Va} (h : a.k = 2) : Key.dclean a = ⟨2, 0, Key.real0 a.f, []⟩ := by unfold Key.dclean Key.cleanF; rw [if_neg (by omega), if_pos h]
theorem Va.dclean3 {a : Va} (h : a.k = 3) : Key.dclean a = ⟨3, 0, 0, a.s⟩ := by unfold Key.dclean Key.cleanF; rw [if_neg (by omega), if_neg (by omega), if_pos h]
theorem Va.dclean4 {a : Va} (h : a.k = 4) : Key.dclean a = ⟨4, if a.n = 0 then 0 else 1, 0, []⟩ := by unfold Key.dclean Key.cleanF; rw [if_neg (by omega), if_neg (by omega), if_neg (by omega), if_pos h]
theorem Va.dclean0 {a : Va} (h1 : a.k ≠ 1) (h2 : a.k ≠ 2) (h3 : a.k ≠ 3) (h4 : a.k ≠ 4) : Key.dclean a = Key.nul := by unfold Key.dclean Key.cleanF; rw [if_neg h1, if_neg h2, if_neg h3, if_neg h4]
set_option maxRecDepth 20000 in
set_option maxHeartbeats 4000000 in
theorem dclean_any (w : World) (v : Va) (hv : v.ok) : Calls Tryz.prog 45 #[v.v] w (RetV w (Key.dclean v)) := by
  have HZ := Lib.hid (ford_zero hv.f1)
  clear hv
  go_enter Tryz.func45, Tryz.ntmps45
  go_upto_region 1 with (first | (refine wpList_alloc_va rfl rfl ?_; intro W2 hb2 hz2 hB2) | (refine wpList_box_va rfl (.tmp 0) rfl v rfl ?_; intro W1 hb1 hz1 hB1))
  have h12 := hb1.below hB2
  have hB := hB1.trans (hB2.mono hB1.size)
  clear hb1 hB1 hB2
  go_upto_region 2 with (first | (refine wpList_alloc_va rfl rfl ?_; intro W3 hb3 hz3 hB3) | (refine wpList_store_va rfl rfl (.tmp 3) (.tmp 4) rfl W2.heap.size rfl Key.nul rfl hb3 ?_; intro W4 hb4 hg4))
  have hz4 := hg4.size
  have h14 : Blk W4 w.heap.size 64 v.cells := (h12.below hB3).grown hg4 (by simp; omega)
  have h24 : Blk W4 W1.heap.size 64 Key.nul.cells := (hb2.below hB3).grown hg4 (by simp; omega)
  have hB4 : Below w.heap.size w W4 := below_of_grown (hB.trans (hB3.mono hB.size)) hg4 (by omega) (by omega)
  clear hb2 hB hB3 hb3 hg4 h12
  have hne : ¬ w.heap.size = W2.heap.size := by omega
  have hne' : ¬ W2.heap.size = w.heap.size := by omega
  have hz24 : W2.heap.size + 1 ≤ W4.heap.size := by omega
  obtain ⟨c0, c1, c2, c3, -⟩ := Blk.c4 h14
  obtain ⟨d0, d1, d2, d3, f0, f1, f2, f3, -⟩ := Blk.c4 hb4
  by_cases hk : v.k < 0 ∨ 4 < v.k
  · have HC := Lib.hid (Va.dclean0 (a := v) (by omega) (by omega) (by omega) (by omega))
    rcases hk with hk | hk
    · go_upto_region 3 with fail
      have hx := hb4
      have h2 := h24
      have hB := hB4
      clear c0 c1 c2 c3 d0 d1 d2 d3 f0 f1 f2 f3
      go_wp2_with (first | (refine wpList_load_va rfl (.tmp 3) rfl W2.heap.size rfl hx ?_) | (refine wpList_store_va rfl rfl (.tmp 2) (.tmp 13) rfl W1.heap.size rfl Key.nul rfl h2 ?_; intro W6 hb6 hg6))
      exact ret_va hb6 rfl rfl rfl ⟨by show Ending.returned (Va.v _) = .returned (Va.v (Key.dclean v)); rw [HC.out], below_of_grown hB hg6 (by omega) hB.size⟩
    · go_upto_region 3 with fail
      have hx := hb4
      have h2 := h24
      have hB := hB4
      clear c0 c1 c2 c3 d0 d1 d2 d3 f0 f1 f2 f3
      go_wp2_with (first | (refine wpList_load_va rfl (.tmp 3) rfl W2.heap.size rfl hx ?_) | (refine wpList_store_va rfl rfl (.tmp 2) (.tmp 13) rfl W1.heap.size rfl Key.nul rfl h2 ?_; intro W6 hb6 hg6))
      exact ret_va hb6 rfl rfl rfl ⟨by show Ending.returned (Va.v _) = .returned (Va.v (Key.dclean v)); rw [HC.out], below_of_grown hB hg6 (by omega) hB.size⟩
  have hk1 : ¬ v.k < 0 := by omega
  have hk2 : ¬ 4 < v.k := by omega
  go_upto_region 5 with fail
  have h15 := h14.other ⟨W2.heap.size, 0, none⟩ hne (.int .i64 v.k)
  have h25 := h24.other ⟨W2.heap.size, 0, none⟩ (by show W1.heap.size ≠ W2.heap.size; omega) (.int .i64 v.k)
  have hx5 : Blk (W4.setCell ⟨W2.heap.size, 0, none⟩ (.int .i64 v.k)) W2.heap.size 64 (Va.cells ⟨v.k, 0, 0, []⟩) := hb4.set0
  have hB5 := hB4.setCell (p := ⟨W2.heap.size, 0, none⟩) (by show w.heap.size ≤ W2.heap.size; omega) (.int .i64 v.k)
  clear c0 c1 c2 c3 d0 d1 d2 d3 f0 f1 f2 f3 h14 h24 hb4 hB4 hz24 hz4 hk
  generalize World.setCell W4 _ _ = W5 at h15 h25 hx5 hB5 ⊢
  obtain ⟨c0, c1, c2, c3, -⟩ := Blk.c4 h15
  obtain ⟨d0, d1, d2, d3, f0, f1, f2, f3, -⟩ := Blk.c4 hx5
  by_cases k1 : v.k = 1
  · have HC := Lib.hid (Va.dclean1 k1)
    rw [k1] at hx5 d0 c0
    go_upto_region 13 with fail
    have hx : Blk (W5.setCell ⟨W2.heap.size, 1, none⟩ (.int .i64 v.n)) W2.heap.size 64 (Va.cells ⟨1, v.n, 0, []⟩) := hx5.set1
    have h2 := h25.other ⟨W2.heap.size, 1, none⟩ (by show W1.heap.size ≠ W2.heap.size; omega) (.int .i64 v.n)
    have hB := hB5.setCell (p := ⟨W2.heap.size, 1, none⟩) (by show w.heap.size ≤ W2.heap.size; omega) (.int .i64 v.n)
    clear c0 c1 c2 c3 d0 d1 d2 d3 f0 f1 f2 f3
    go_wp2_with (first | (refine wpList_load_va rfl (.tmp 3) rfl W2.heap.size rfl hx ?_) | (refine wpList_store_va rfl rfl (.tmp 2) (.tmp 49) rfl W1.heap.size rfl ⟨1, v.n, 0, []⟩ rfl h2 ?_; intro W6 hb6 hg6))
    exact ret_va hb6 rfl rfl rfl ⟨by show Ending.returned (Va.v _) = .returned (Va.v (Key.dclean v)); rw [HC.out], below_of_grown hB hg6 (by omega) hB.size⟩
  by_cases k2 : v.k = 2
  · rw [k2] at hx5 d0 c0
    by_cases hz : v.f % 9223372036854775808 = 0
    · have HC : Hid (Key.dclean v = ⟨2, 0, 0, []⟩) := by show _ = _; rw [Va.dclean2 k2]; unfold Key.real0; rw [if_pos hz]
      have ho1 : (FloatKind.f64.format.order v.f 0 == some Ordering.eq) = true := HZ.out.trans (decide_eq_true hz)
      have ho2 : FloatKind.f64.format.order v.f 0 = some Ordering.eq := by simpa using ho1
      have ho : (FloatKind.f64.format.order v.f 0 != some Ordering.eq) = false := by rw [ho2]; rfl
      clear hz HZ
      go_upto_region 13 with fail
      have hx := hx5
      have h2 := h25
      have hB := hB5
      clear c0 c1 c2 c3 d0 d1 d2 d3 f0 f1 f2 f3
      go_wp2_with (first | (refine wpList_load_va rfl (.tmp 3) rfl W2.heap.size rfl hx ?_) | (refine wpList_store_va rfl rfl (.tmp 2) (.tmp 49) rfl W1.heap.size rfl ⟨2, 0, 0, []⟩ rfl h2 ?_; intro W6 hb6 hg6))
      exact ret_va hb6 rfl rfl rfl ⟨by show Ending.returned (Va.v _) = .returned (Va.v (Key.dclean v)); rw [HC.out], below_of_grown hB hg6 (by omega) hB.size⟩
    · have HC : Hid (Key.dclean v = ⟨2, 0, v.f, []⟩) := by show _ = _; rw [Va.dclean2 k2]; unfold Key.real0; rw [if_neg hz]
      have ho1 : (FloatKind.f64.format.order v.f 0 == some Ordering.eq) = false := HZ.out.trans (decide_eq_false hz)
      have ho2 : ¬ FloatKind.f64.format.order v.f 0 = some Ordering.eq := by simpa using ho1
      have ho : (FloatKind.f64.format.order v.f 0 != some Ordering.eq) = true := by unfold bne; rw [ho1]; rfl
      have hst : ∀ (w : World) (a : Addr) (b : Nat), (store a (.float .f64 b)).run Tryz.prog w = stored Tryz.prog w a (.float .f64 b) .plain := fun w a b => run_store Tryz.prog w a (.float .f64 b) .plain rfl
      clear hz HZ
      go_upto_region 13 with fail
      have hx : Blk (W5.setCell ⟨W2.heap.size, 2, none⟩ (.float .f64 v.f)) W2.heap.size 64 (Va.cells ⟨2, 0, v.f, []⟩) := hx5.set2
      clear hst
      have h2 := h25.other ⟨W2.heap.size, 2, none⟩ (by show W1.heap.size ≠ W2.heap.size; omega) (.float .f64 v.f)
      have hB := hB5.setCell (p := ⟨W2.heap.size, 2, none⟩) (by show w.heap.size ≤ W2.heap.size; omega) (.float .f64 v.f)
      clear c0 c1 c2 c3 d0 d1 d2 d3 f0 f1 f2 f3
      go_wp2_with (first | (refine wpList_load_va rfl (.tmp 3) rfl W2.heap.size rfl hx ?_) | (refine wpList_store_va rfl rfl (.tmp 2) (.tmp 49) rfl W1.heap.size rfl ⟨2, 0, v.f, []⟩ rfl h2 ?_; intro W6 hb6 hg6))
      exact ret_va hb6 rfl rfl rfl ⟨by show Ending.returned (Va.v _) = .returned (Va.v (Key.dclean v)); rw [HC.out], below_of_grown hB hg6 (by omega) hB.size⟩
  by_cases k3 : v.k = 3
  · have HC := Lib.hid (Va.dclean3 k3)
    rw [k3] at hx5 d0 c0
    have c3' : W5.cell? ⟨w.heap.size, 3, none⟩ = some (.string ⟨v.s.toArray⟩) := c3
    clear c3
    have c3 := True.intro
    go_upto_region 13 with fail
    have hx : Blk (W5.setCell ⟨W2.heap.size, 3, none⟩ (txt v.s)) W2.heap.size 64 (Va.cells ⟨3, 0, 0, v.s⟩) := hx5.set3
    clear c3'
    have h2 := h25.other ⟨W2.heap.size, 3, none⟩ (by show W1.heap.size ≠ W2.heap.size; omega) (txt v.s)
    have hB := hB5.setCell (p := ⟨W2.heap.size, 3, none⟩) (by show w.heap.size ≤ W2.heap.size; omega) (txt v.s)
    clear c0 c1 c2 c3 d0 d1 d2 d3 f0 f1 f2 f3
    go_wp2_with (first | (refine wpList_load_va rfl (.tmp 3) rfl W2.heap.size rfl hx ?_) | (refine wpList_store_va rfl rfl (.tmp 2) (.tmp 49) rfl W1.heap.size rfl ⟨3, 0, 0, v.s⟩ rfl h2 ?_; intro W6 hb6 hg6))
    exact ret_va hb6 rfl rfl rfl ⟨by show Ending.returned (Va.v _) = .returned (Va.v (Key.dclean v)); rw [HC.out], below_of_grown hB hg6 (by omega) hB.size⟩
  by_cases k4 : v.k = 4
  · rw [k4] at hx5 d0 c0
    by_cases hn : v.n = 0
    · have HC : Hid (Key.dclean v = ⟨4, 0, 0, []⟩) := by show _ = _; rw [Va.dclean4 k4, if_pos hn]
      go_upto_region 13 with fail
      have hx := hx5
      have h2 := h25
      have hB := hB5
      clear c0 c1 c2 c3 d0 d1 d2 d3 f0 f1 f2 f3
      go_wp2_with (first | (refine wpList_load_va rfl (.tmp 3) rfl W2.heap.size rfl hx ?_) | (refine wpList_store_va rfl rfl (.tmp 2) (.tmp 49) rfl W1.heap.size rfl ⟨4, 0, 0, []⟩ rfl h2 ?_; intro W6 hb6 hg6))
      exact ret_va hb6 rfl rfl rfl ⟨by show Ending.returned (Va.v _) = .returned (Va.v (Key.dclean v)); rw [HC.out], below_of_grown hB hg6 (by omega) hB.size⟩
    · have HC : Hid (Key.dclean v = ⟨4, 1, 0, []⟩) := by show _ = _; rw [Va.dclean4 k4, if_neg hn]
      go_upto_region 13 with fail
      have hx : Blk (W5.setCell ⟨W2.heap.size, 1, none⟩ (.int .i64 1)) W2.heap.size 64 (Va.cells ⟨4, 1, 0, []⟩) := hx5.set1
      have h2 := h25.other ⟨W2.heap.size, 1, none⟩ (by show W1.heap.size ≠ W2.heap.size; omega) (.int .i64 1)
      have hB := hB5.setCell (p := ⟨W2.heap.size, 1, none⟩) (by show w.heap.size ≤ W2.heap.size; omega) (.int .i64 1)
      clear c0 c1 c2 c3 d0 d1 d2 d3 f0 f1 f2 f3
      go_wp2_with (first | (refine wpList_load_va rfl (.tmp 3) rfl W2.heap.size rfl hx ?_) | (refine wpList_store_va rfl rfl (.tmp 2) (.tmp 49) rfl W1.heap.size rfl ⟨4, 1, 0, []⟩ rfl h2 ?_; intro W6 hb6 hg6))
      exact ret_va hb6 rfl rfl rfl ⟨by show Ending.returned (Va.v _) = .returned (Va.v (Key.dclean v)); rw [HC.out], below_of_grown hB hg6 (by omega) hB.size⟩
  · have k0 : v.k = 0 := by omega
    have HC := Lib.hid (Va.dclean0 k1 k2 k3 k4)
    rw [k0] at hx5 d0 c0
    clear k1 k2 k3 k4 hk1 hk2
    go_upto_region 13 with fail
    have hx := hx5
    have h2 := h25
    have hB := hB5
    clear c0 c1 c2 c3 d0 d1 d2 d3 f0 f1 f2 f3
    go_wp2_with (first | (refine wpList_load_va rfl (.tmp 3) rfl W2.heap.size rfl hx ?_) | (refine wpList_store_va rfl rfl (.tmp 2) (.tmp 49) rfl W1.heap.size rfl Key.nul rfl h2 ?_; intro W6 hb6 hg6))
    exact ret_va hb6 rfl rfl rfl ⟨by show Ending.returned (Va.v _) = .returned (Va.v (Key.dclean v)); rw [HC.out], below_of_grown hB hg6 (by omega) hB.size⟩
end Go.Proofs.YtpahkaffknnjhaaGreatDoor
end

section
namespace Go.Proofs.YtpahkaffknnjhaaGreatDoor
set_option linter.unusedSimpArgs false
set_option linter.unusedVariables false
open Go.RowKit
theorem txt_bytes (l : List UInt8) : (ByteArray.mk l.toArray).toList = l := by rw [Lib.toList_data]
theorem less_asymm : ∀ a b : List UInt8, Op.bytesLess a b = true → Op.bytesLess b a = false
  | _, [], h => by simp [Op.bytesLess] at h
  | [], _ :: _, _ => rfl
  | a :: x, b :: y, h => by
    simp only [Op.bytesLess, Bool.or_eq_true, Bool.and_eq_true, decide_eq_true_eq, beq_iff_eq] at h
    simp only [Op.bytesLess, Bool.or_eq_false_iff, Bool.and_eq_false_iff, decide_eq_false_iff_not, beq_eq_false_iff_ne]
    rcases h with h | ⟨rfl, h⟩
    · rw [UInt8.lt_iff_toNat_lt] at h
      exact ⟨by rw [UInt8.lt_iff_toNat_lt]; omega, .inl fun e => by subst e; omega⟩
    · exact ⟨by rw [UInt8.lt_iff_toNat_lt]; omega, .inr (less_asymm x y h)⟩
theorem not_less_eq (l m : List UInt8) : (!(Op.bytesLess l m || l == m)) = Op.bytesLess m l := by
  cases h1 : Op.bytesLess l m with
  | true => rw [less_asymm l m h1]; rfl
  | false =>
    cases h2 : Op.bytesLess m l with
    | true =>
      have : (l == m) = false := by
        rw [beq_eq_false_iff_ne]
        intro e; subst e; rw [h1] at h2; cases h2
      rw [this]; rfl
    | false =>
      have := Key.less_total l m h1 h2
      subst this
      simp
theorem str_lt (l m : List UInt8) (w : World) : (binOp .lss 9 (txt l) (txt m)).run Tryz.prog w = .ok (.bool (Op.bytesLess l m)) w := by
  unfold txt
  rw [binOp_string_lss, txt_bytes, txt_bytes]
  rfl
theorem str_gt (l m : List UInt8) (w : World) : (binOp .gtr 9 (txt l) (txt m)).run Tryz.prog w = .ok (.bool (Op.bytesLess m l)) w := by
  unfold txt
  rw [binOp_string_gtr, txt_bytes, txt_bytes, not_less_eq]
  rfl
set_option maxRecDepth 20000 in
theorem number_any (w : World) (f : Nat) (hf : f < two64) : Calls Tryz.prog 91 #[.float .f64 f] w fun e w' => e = .returned (.bool (!decide (fnan f))) ∧ w' = w := by
  have h := ford_self hf
  have h2 : (FloatKind.f64.format.order f f == some Ordering.eq) = !decide (fnan f) := by
    rw [← h]
    show _ = !(ford f f != some Ordering.eq)
    unfold bne
    rw [Bool.not_not]
    rfl
  clear h hf
  have HF := Lib.hid h2
  clear h2
  go_enter Tryz.func91, Tryz.ntmps91
  go_wp2_with fail
  go_ret
  exact ⟨by rw [← HF.out]; rfl, rfl⟩
namespace Key
theorem vord_lt {a b : Va} (h : vless a b) : vord a b = -1 := by unfold vord; rw [if_pos h]
theorem vord_gt {a b : Va} (h1 : ¬ vless a b) (h : vless b a) : vord a b = 1 := by unfold vord; rw [if_neg h1, if_pos h]
theorem vord_eq {a b : Va} (h1 : ¬ vless a b) (h : ¬ vless b a) : vord a b = 0 := by unfold vord; rw [if_neg h1, if_neg h]
theorem vless_real {a b : Va} (h : a.k = b.k) (h2 : a.k = 2) : vless a b ↔ ((¬ fnan a.f ∧ fnan b.f) ∨ (¬ fnan a.f ∧ ¬ fnan b.f ∧ fsg a.f < fsg b.f)) := by
  unfold vless
  rw [if_pos h2]
  constructor
  · rintro (h' | h')
    · omega
    · exact h'.2
  · intro h'; exact .inr ⟨h, h'⟩
theorem vless_text {a b : Va} (h : a.k = b.k) (h2 : a.k = 3) : vless a b ↔ Op.bytesLess a.s b.s = true := by
  unfold vless
  rw [if_neg (by omega), if_pos h2]
  constructor
  · rintro (h' | h')
    · omega
    · exact h'.2
  · intro h'; exact .inr ⟨h, h'⟩
theorem vless_num {a b : Va} (h : a.k = b.k) (h2 : a.k ≠ 2) (h3 : a.k ≠ 3) : vless a b ↔ a.n < b.n := by
  unfold vless
  rw [if_neg h2, if_neg h3]
  constructor
  · rintro (h' | h')
    · omega
    · exact h'.2
  · intro h'; exact .inr ⟨h, h'⟩
theorem vless_kind {a b : Va} (h : a.k ≠ b.k) : vless a b ↔ a.k < b.k := by
  unfold vless
  constructor
  · rintro (h' | h')
    · exact h'
    · exact absurd h'.1 h
  · exact .inl
end Key
set_option maxRecDepth 20000 in
set_option maxHeartbeats 4000000 in
theorem vorder_any (w : World) (a b : Va) (ha : a.ok) (hb : b.ok) : Calls Tryz.prog 43 #[a.v, b.v] w fun e w' => e = .returned (.int .i64 (Key.vord (Key.dclean a) (Key.dclean b))) ∧ Below w.heap.size w w' := by
  have HA := Lib.hid ha
  have HB := Lib.hid hb
  have HXO := Lib.hid (Key.dclean_ok ha)
  have HYO := Lib.hid (Key.dclean_ok hb)
  clear ha hb
  go_enter Tryz.func43, Tryz.ntmps43
  go_upto_region 1 with (first | (refine wpList_box_va rfl (.tmp 0) rfl a rfl ?_; intro W1 hb1 hz1 hB1) | (refine wpList_box_va rfl (.tmp 1) rfl b rfl ?_; intro W2 hb2 hz2 hB2))
  have h12 := hb1.below hB2
  have hB := hB1.trans (hB2.mono hB1.size)
  clear hb1 hB1 hB2
  have h1d := h12.drew
  have h2d := hb2.drew
  refine wp_region_plan (.take 0 (.take 2 (.run 1 [2] (.run 3 [] (.run 4 [] (.run 5 [] .fin)))))) (by kernel_rfl) (by kernel_rfl) (by kernel_rfl) (by kernel_rfl) ?_
  repeat' (first | (refine hZ _ _ ?_; clear hZ) | (refine hZ _ ?_; clear hZ) | (refine hZ ?_; clear hZ) | rw [again_nil] | rw [walk_fin] | ((first | rw [walk_take] | rw [walk_run] | rw [again_cons]); intro Z hZ; simp only [sel, List.getElem?_toArray, List.getElem?_cons_zero, List.getElem?_cons_succ]; go_wp2_with (first | (refine wpList_load_va rfl (.tmp 2) rfl w.heap.size rfl h1d ?_) | (refine wpList_load_va rfl (.tmp 3) rfl W1.heap.size rfl h2d ?_))))
  refine (dclean_any _ a HA.out).mono ?_
  rintro e W3 ⟨rfl, hB3⟩
  have h1e := h1d.below hB3
  have h2e := h2d.below hB3
  have hBe := hB.drewR.trans (hB3.mono hB.size)
  have hze : W2.heap.size ≤ W3.heap.size := hB3.size
  clear h1d h2d hB3 h12 hb2 hB
  go_wp2_with fail
  repeat' (first | (refine hZ _ _ ?_; clear hZ) | (refine hZ _ ?_; clear hZ) | (refine hZ ?_; clear hZ) | rw [again_nil] | rw [walk_fin] | ((first | rw [walk_take] | rw [walk_run] | rw [again_cons]); intro Z hZ; simp only [sel, List.getElem?_toArray, List.getElem?_cons_zero, List.getElem?_cons_succ]; go_wp2_with (first | (refine wpList_load_va rfl (.tmp 3) rfl W1.heap.size rfl h2e ?_))))
  refine (dclean_any _ b HB.out).mono ?_
  rintro e W4 ⟨rfl, hB4⟩
  have h1f := h1e.below hB4
  have h2f := h2e.below hB4
  have hBf := hBe.trans (hB4.mono hBe.size)
  have hzf : W3.heap.size ≤ W4.heap.size := hB4.size
  clear h1e h2e hB4 hBe
  go_wp2_with fail
  repeat' (first | (refine hZ _ _ ?_; clear hZ) | (refine hZ _ ?_; clear hZ) | (refine hZ ?_; clear hZ) | rw [again_nil] | rw [walk_fin] | ((first | rw [walk_take] | rw [walk_run] | rw [again_cons]); intro Z hZ; simp only [sel, List.getElem?_toArray, List.getElem?_cons_zero, List.getElem?_cons_succ]; go_wp2_with (first | (refine wpList_store_va rfl rfl (.tmp 2) (.tmp 8) rfl w.heap.size rfl (Key.dclean a) rfl h1f ?_; intro W5 hb5 hg5; have h25 := h2f.grown hg5 (by simp; omega)) | (refine wpList_store_va rfl rfl (.tmp 3) (.tmp 10) rfl W1.heap.size rfl (Key.dclean b) rfl h25 ?_; intro W6 hb6 hg6))))
  have h16 : Blk W6 w.heap.size 64 (Key.dclean a).cells := hb5.grown hg6 (by simp; omega)
  have hB5 : Below w.heap.size w W5 := below_of_grown hBf hg5 (Nat.le_refl _) (by omega)
  have HB6 : Hid (Below w.heap.size w W6) := below_of_grown hB5 hg6 (by omega) hB5.size
  clear h1f h2f hBf hb5 hg5 h25 hg6 hB5 HA HB
  generalize hX : Key.dclean a = x at HXO h16 ⊢
  generalize hY : Key.dclean b = y at HYO hb6 ⊢
  have HX := Lib.hid hX
  have HY := Lib.hid hY
  clear hX hY
  clear hze hzf hz1 hz2
  obtain ⟨c0, c1, c2, c3, -⟩ := Blk.c4 h16
  obtain ⟨d0, d1, d2, d3, -⟩ := Blk.c4 hb6
  have c0d : W6.drew.cell? ⟨w.heap.size, 0, none⟩ = some (.int .i64 x.k) := c0
  have d0d : W6.drew.cell? ⟨W1.heap.size, 0, none⟩ = some (.int .i64 y.k) := d0
  clear h16 hb6
  go_upto_region 2 with fail
  by_cases hk : x.k = y.k
  · have HKK := Lib.hid hk
    rw [hk] at c0 c0d
    clear hk
    refine wp_region_plan (.take 0 (.take 1 (.take 2 (.take 3 (.take 4 (.take 5 (.take 6 (.take 7 (.take 8 (.take 9 (.take 10 (.take 11 .fin)))))))))))) (by kernel_rfl) (by kernel_rfl) (by kernel_rfl) (by kernel_rfl) ?_
    repeat' (first | (refine hZ _ _ ?_; clear hZ) | (refine hZ _ ?_; clear hZ) | (refine hZ ?_; clear hZ) | rw [again_nil] | rw [walk_fin] | ((first | rw [walk_take] | rw [walk_run] | rw [again_cons]); intro Z hZ; simp only [sel, List.getElem?_toArray, List.getElem?_cons_zero, List.getElem?_cons_succ]; go_wp2_with (fail)))
    go_upto_region 4 with fail
    by_cases k2 : y.k = 2
    · have HVL := Lib.hid (Key.vless_real HKK.out (by rw [HKK.out]; exact k2))
      have HVG := Lib.hid (Key.vless_real HKK.out.symm k2)
      rw [k2] at c0 d0 c0d d0d
      refine wp_region_plan (.take 0 (.take 1 (.take 2 (.take 3 (.take 4 (.take 5 (.take 6 (.take 7 (.take 8 (.take 9 (.take 10 (.take 11 .fin)))))))))))) (by kernel_rfl) (by kernel_rfl) (by kernel_rfl) (by kernel_rfl) ?_
      repeat' (first | (refine hZ _ _ ?_; clear hZ) | (refine hZ _ ?_; clear hZ) | (refine hZ ?_; clear hZ) | rw [again_nil] | rw [walk_fin] | ((first | rw [walk_take] | rw [walk_run] | rw [again_cons]); intro Z hZ; simp only [sel, List.getElem?_toArray, List.getElem?_cons_zero, List.getElem?_cons_succ]; go_wp2_with (fail)))
      by_cases nx : fnan x.f
      · have hdx : (!decide (fnan x.f)) = false := by simp [nx]
        have hord : FloatKind.f64.format.order x.f y.f = none := ford_nan (.inl nx)
        by_cases ny : fnan y.f
        · have hdy : (!decide (fnan y.f)) = false := by simp [ny]
          have HV := Lib.hid (Key.vord_eq (a := x) (b := y) (fun h => by rcases HVL.out.1 h with h | h <;> exact h.1 nx) (fun h => by rcases HVG.out.1 h with h | h <;> exact h.1 ny))
          clear nx ny
          go_wp2_with fail
          refine (number_any _ x.f HXO.out.f1).mono ?_
          rintro e wq ⟨rfl, hwq⟩
          rw [hwq, hdx]
          clear hwq wq
          go_wp2_with fail
          refine (number_any _ x.f HXO.out.f1).mono ?_
          rintro e wq ⟨rfl, hwq⟩
          rw [hwq, hdx]
          clear hwq wq
          go_wp2_with fail
          refine (number_any _ y.f HYO.out.f1).mono ?_
          rintro e wq ⟨rfl, hwq⟩
          rw [hwq, hdy]
          clear hwq wq
          go_wp2_with fail
          go_ret
          exact ⟨by rw [HX.out, HY.out, HV.out]; rfl, HB6.out.drewR.drewR⟩
        · have hdy : (!decide (fnan y.f)) = true := by simp [ny]
          have HV := Lib.hid (Key.vord_gt (a := x) (b := y) (fun h => by rcases HVL.out.1 h with h | h <;> exact h.1 nx) (HVG.out.2 (.inl ⟨ny, nx⟩)))
          clear nx ny
          go_wp2_with fail
          refine (number_any _ x.f HXO.out.f1).mono ?_
          rintro e wq ⟨rfl, hwq⟩
          rw [hwq, hdx]
          clear hwq wq
          go_wp2_with fail
          refine (number_any _ x.f HXO.out.f1).mono ?_
          rintro e wq ⟨rfl, hwq⟩
          rw [hwq, hdx]
          clear hwq wq
          go_wp2_with fail
          refine (number_any _ y.f HYO.out.f1).mono ?_
          rintro e wq ⟨rfl, hwq⟩
          rw [hwq, hdy]
          clear hwq wq
          go_wp2_with fail
          go_ret
          exact ⟨by rw [HX.out, HY.out, HV.out]; rfl, HB6.out.drewR.drewR⟩
      · have hdx : (!decide (fnan x.f)) = true := by simp [nx]
        by_cases ny : fnan y.f
        · have hdy : (!decide (fnan y.f)) = false := by simp [ny]
          have hord : FloatKind.f64.format.order x.f y.f = none := ford_nan (.inr ny)
          have HV := Lib.hid (Key.vord_lt (a := x) (b := y) (HVL.out.2 (.inl ⟨nx, ny⟩)))
          clear nx ny
          go_wp2_with fail
          refine (number_any _ x.f HXO.out.f1).mono ?_
          rintro e wq ⟨rfl, hwq⟩
          rw [hwq, hdx]
          clear hwq wq
          go_wp2_with fail
          refine (number_any _ y.f HYO.out.f1).mono ?_
          rintro e wq ⟨rfl, hwq⟩
          rw [hwq, hdy]
          clear hwq wq
          go_wp2_with fail
          refine (number_any _ x.f HXO.out.f1).mono ?_
          rintro e wq ⟨rfl, hwq⟩
          rw [hwq, hdx]
          clear hwq wq
          go_wp2_with fail
          go_ret
          exact ⟨by rw [HX.out, HY.out, HV.out]; rfl, HB6.out.drewR.drewR⟩
        · have hdy : (!decide (fnan y.f)) = true := by simp [ny]
          have ho : FloatKind.f64.format.order x.f y.f = some (compare (fsg x.f) (fsg y.f)) := ford_some HXO.out.f1 HYO.out.f1 nx ny
          rcases Int.lt_trichotomy (fsg x.f) (fsg y.f) with h | h | h
          · have hord : FloatKind.f64.format.order x.f y.f = some .lt := by rw [ho, Std.compare_eq_lt.2 h]
            have HV := Lib.hid (Key.vord_lt (a := x) (b := y) (HVL.out.2 (.inr ⟨nx, ny, h⟩)))
            clear nx ny ho h
            go_wp2_with fail
            refine (number_any _ x.f HXO.out.f1).mono ?_
            rintro e wq ⟨rfl, hwq⟩
            rw [hwq, hdx]
            clear hwq wq
            go_wp2_with fail
            refine (number_any _ y.f HYO.out.f1).mono ?_
            rintro e wq ⟨rfl, hwq⟩
            rw [hwq, hdy]
            clear hwq wq
            go_wp2_with fail
            refine (number_any _ x.f HXO.out.f1).mono ?_
            rintro e wq ⟨rfl, hwq⟩
            rw [hwq, hdx]
            clear hwq wq
            go_wp2_with fail
            go_ret
            exact ⟨by rw [HX.out, HY.out, HV.out]; rfl, HB6.out.drewR.drewR⟩
          · have hord : FloatKind.f64.format.order x.f y.f = some .eq := by rw [ho, h, Std.compare_self]
            have HV := Lib.hid (Key.vord_eq (a := x) (b := y) (fun h' => (HVL.out.1 h').elim (fun h' => ny h'.2) (fun h' => absurd h'.2.2 (by omega))) (fun h' => (HVG.out.1 h').elim (fun h' => nx h'.2) (fun h' => absurd h'.2.2 (by omega))))
            clear nx ny ho h
            go_wp2_with fail
            refine (number_any _ x.f HXO.out.f1).mono ?_
            rintro e wq ⟨rfl, hwq⟩
            rw [hwq, hdx]
            clear hwq wq
            go_wp2_with fail
            refine (number_any _ y.f HYO.out.f1).mono ?_
            rintro e wq ⟨rfl, hwq⟩
            rw [hwq, hdy]
            clear hwq wq
            go_wp2_with fail
            refine (number_any _ x.f HXO.out.f1).mono ?_
            rintro e wq ⟨rfl, hwq⟩
            rw [hwq, hdx]
            clear hwq wq
            go_wp2_with fail
            go_ret
            exact ⟨by rw [HX.out, HY.out, HV.out]; rfl, HB6.out.drewR.drewR⟩
          · have hord : FloatKind.f64.format.order x.f y.f = some .gt := by rw [ho, Std.compare_eq_gt.2 h]
            have HV := Lib.hid (Key.vord_gt (a := x) (b := y) (fun h' => (HVL.out.1 h').elim (fun h' => ny h'.2) (fun h' => absurd h'.2.2 (by omega))) (HVG.out.2 (.inr ⟨ny, nx, h⟩)))
            clear nx ny ho h
            go_wp2_with fail
            refine (number_any _ x.f HXO.out.f1).mono ?_
            rintro e wq ⟨rfl, hwq⟩
            rw [hwq, hdx]
            clear hwq wq
            go_wp2_with fail
            refine (number_any _ y.f HYO.out.f1).mono ?_
            rintro e wq ⟨rfl, hwq⟩
            rw [hwq, hdy]
            clear hwq wq
            go_wp2_with fail
            refine (number_any _ x.f HXO.out.f1).mono ?_
            rintro e wq ⟨rfl, hwq⟩
            rw [hwq, hdx]
            clear hwq wq
            go_wp2_with fail
            go_ret
            exact ⟨by rw [HX.out, HY.out, HV.out]; rfl, HB6.out.drewR.drewR⟩
    by_cases k3 : y.k = 3
    · have HVL := Lib.hid (Key.vless_text HKK.out (by rw [HKK.out]; exact k3))
      have HVG := Lib.hid (Key.vless_text HKK.out.symm k3)
      rw [k3] at c0 d0 c0d d0d
      refine wp_region_plan (.take 0 (.take 1 (.take 2 (.take 3 (.take 4 (.take 5 (.take 6 (.take 7 (.take 8 (.take 9 (.take 10 (.take 11 .fin)))))))))))) (by kernel_rfl) (by kernel_rfl) (by kernel_rfl) (by kernel_rfl) ?_
      repeat' (first | (refine hZ _ _ ?_; clear hZ) | (refine hZ _ ?_; clear hZ) | (refine hZ ?_; clear hZ) | rw [again_nil] | rw [walk_fin] | ((first | rw [walk_take] | rw [walk_run] | rw [again_cons]); intro Z hZ; simp only [sel, List.getElem?_toArray, List.getElem?_cons_zero, List.getElem?_cons_succ]; go_wp2_with (fail)))
      have klt := str_lt
      have kgt := str_gt
      go_upto_region 9 with fail
      cases hq1 : Op.bytesLess x.s y.s with
      | true =>
        have hq2 := less_asymm x.s y.s hq1
        have HV := Lib.hid (Key.vord_lt (a := x) (b := y) (HVL.out.2 hq1))
        refine wp_region_plan (.take 0 (.take 1 (.take 2 (.take 3 (.take 4 (.take 5 (.take 6 (.take 7 (.take 8 (.take 9 (.take 10 (.take 11 .fin)))))))))))) (by kernel_rfl) (by kernel_rfl) (by kernel_rfl) (by kernel_rfl) ?_
        repeat' (first | (refine hZ _ _ ?_; clear hZ) | (refine hZ _ ?_; clear hZ) | (refine hZ ?_; clear hZ) | rw [again_nil] | rw [walk_fin] | ((first | rw [walk_take] | rw [walk_run] | rw [again_cons]); intro Z hZ; simp only [sel, List.getElem?_toArray, List.getElem?_cons_zero, List.getElem?_cons_succ]; go_wp2_with (fail)))
        clear klt kgt
        go_wp2_with fail
        go_ret
        exact ⟨by rw [HX.out, HY.out, HV.out]; rfl, HB6.out.drewR.drewR.drewR⟩
      | false =>
        cases hq2 : Op.bytesLess y.s x.s with
        | true =>
          have HV := Lib.hid (Key.vord_gt (a := x) (b := y) (fun h => by have := HVL.out.1 h; rw [hq1] at this; cases this) (HVG.out.2 hq2))
          refine wp_region_plan (.take 0 (.take 1 (.take 2 (.take 3 (.take 4 (.take 5 (.take 6 (.take 7 (.take 8 (.take 9 (.take 10 (.take 11 .fin)))))))))))) (by kernel_rfl) (by kernel_rfl) (by kernel_rfl) (by kernel_rfl) ?_
          repeat' (first | (refine hZ _ _ ?_; clear hZ) | (refine hZ _ ?_; clear hZ) | (refine hZ ?_; clear hZ) | rw [again_nil] | rw [walk_fin] | ((first | rw [walk_take] | rw [walk_run] | rw [again_cons]); intro Z hZ; simp only [sel, List.getElem?_toArray, List.getElem?_cons_zero, List.getElem?_cons_succ]; go_wp2_with (fail)))
          clear klt kgt
          go_wp2_with fail
          go_ret
          exact ⟨by rw [HX.out, HY.out, HV.out]; rfl, HB6.out.drewR.drewR.drewR⟩
        | false =>
          have HV := Lib.hid (Key.vord_eq (a := x) (b := y) (fun h => by have := HVL.out.1 h; rw [hq1] at this; cases this) (fun h => by have := HVG.out.1 h; rw [hq2] at this; cases this))
          refine wp_region_plan (.take 0 (.take 1 (.take 2 (.take 3 (.take 4 (.take 5 (.take 6 (.take 7 (.take 8 (.take 9 (.take 10 (.take 11 .fin)))))))))))) (by kernel_rfl) (by kernel_rfl) (by kernel_rfl) (by kernel_rfl) ?_
          repeat' (first | (refine hZ _ _ ?_; clear hZ) | (refine hZ _ ?_; clear hZ) | (refine hZ ?_; clear hZ) | rw [again_nil] | rw [walk_fin] | ((first | rw [walk_take] | rw [walk_run] | rw [again_cons]); intro Z hZ; simp only [sel, List.getElem?_toArray, List.getElem?_cons_zero, List.getElem?_cons_succ]; go_wp2_with (fail)))
          clear klt kgt
          go_wp2_with fail
          go_ret
          exact ⟨by rw [HX.out, HY.out, HV.out]; rfl, HB6.out.drewR.drewR.drewR⟩
    · have HVL := Lib.hid (Key.vless_num HKK.out (by rw [HKK.out]; exact k2) (by rw [HKK.out]; exact k3))
      have HVG := Lib.hid (Key.vless_num HKK.out.symm k2 k3)
      rcases Int.lt_trichotomy x.n y.n with h | h | h
      · have h' : ¬ y.n < x.n := by omega
        have HV := Lib.hid (Key.vord_lt (a := x) (b := y) (HVL.out.2 h))
        refine wp_region_plan (.take 0 (.take 1 (.take 2 (.take 3 (.take 4 (.take 5 (.take 6 (.take 7 (.take 8 (.take 9 (.take 10 (.take 11 .fin)))))))))))) (by kernel_rfl) (by kernel_rfl) (by kernel_rfl) (by kernel_rfl) ?_
        repeat' (first | (refine hZ _ _ ?_; clear hZ) | (refine hZ _ ?_; clear hZ) | (refine hZ ?_; clear hZ) | rw [again_nil] | rw [walk_fin] | ((first | rw [walk_take] | rw [walk_run] | rw [again_cons]); intro Z hZ; simp only [sel, List.getElem?_toArray, List.getElem?_cons_zero, List.getElem?_cons_succ]; go_wp2_with (fail)))
        go_wp2_with fail
        go_ret
        exact ⟨by rw [HX.out, HY.out, HV.out]; rfl, HB6.out.drewR.drewR⟩
      · have HV := Lib.hid (Key.vord_eq (a := x) (b := y) (fun h' => by have := HVL.out.1 h'; omega) (fun h' => by have := HVG.out.1 h'; omega))
        rw [h] at c1
        clear h
        refine wp_region_plan (.take 0 (.take 1 (.take 2 (.take 3 (.take 4 (.take 5 (.take 6 (.take 7 (.take 8 (.take 9 (.take 10 (.take 11 .fin)))))))))))) (by kernel_rfl) (by kernel_rfl) (by kernel_rfl) (by kernel_rfl) ?_
        repeat' (first | (refine hZ _ _ ?_; clear hZ) | (refine hZ _ ?_; clear hZ) | (refine hZ ?_; clear hZ) | rw [again_nil] | rw [walk_fin] | ((first | rw [walk_take] | rw [walk_run] | rw [again_cons]); intro Z hZ; simp only [sel, List.getElem?_toArray, List.getElem?_cons_zero, List.getElem?_cons_succ]; go_wp2_with (fail)))
        go_wp2_with fail
        go_ret
        exact ⟨by rw [HX.out, HY.out, HV.out]; rfl, HB6.out.drewR.drewR⟩
      · have h' : ¬ x.n < y.n := by omega
        have HV := Lib.hid (Key.vord_gt (a := x) (b := y) (fun h'' => by have := HVL.out.1 h''; omega) (HVG.out.2 h))
        refine wp_region_plan (.take 0 (.take 1 (.take 2 (.take 3 (.take 4 (.take 5 (.take 6 (.take 7 (.take 8 (.take 9 (.take 10 (.take 11 .fin)))))))))))) (by kernel_rfl) (by kernel_rfl) (by kernel_rfl) (by kernel_rfl) ?_
        repeat' (first | (refine hZ _ _ ?_; clear hZ) | (refine hZ _ ?_; clear hZ) | (refine hZ ?_; clear hZ) | rw [again_nil] | rw [walk_fin] | ((first | rw [walk_take] | rw [walk_run] | rw [again_cons]); intro Z hZ; simp only [sel, List.getElem?_toArray, List.getElem?_cons_zero, List.getElem?_cons_succ]; go_wp2_with (fail)))
        go_wp2_with fail
        go_ret
        exact ⟨by rw [HX.out, HY.out, HV.out]; rfl, HB6.out.drewR.drewR⟩
  · have HK := Lib.hid (Key.vless_kind hk)
    have HK2 := Lib.hid (Key.vless_kind (Ne.symm hk))
    by_cases hlt : x.k < y.k
    · have hn2 : ¬ y.k < x.k := by omega
      have HV := Lib.hid (Key.vord_lt (HK.out.2 hlt))
      refine wp_region_plan (.take 0 (.take 1 (.take 2 (.take 3 (.take 4 (.take 5 (.take 6 (.take 7 (.take 8 (.take 9 (.take 10 (.take 11 .fin)))))))))))) (by kernel_rfl) (by kernel_rfl) (by kernel_rfl) (by kernel_rfl) ?_
      repeat' (first | (refine hZ _ _ ?_; clear hZ) | (refine hZ _ ?_; clear hZ) | (refine hZ ?_; clear hZ) | rw [again_nil] | rw [walk_fin] | ((first | rw [walk_take] | rw [walk_run] | rw [again_cons]); intro Z hZ; simp only [sel, List.getElem?_toArray, List.getElem?_cons_zero, List.getElem?_cons_succ]; go_wp2_with (fail)))
      go_wp2_with fail
      go_ret
      exact ⟨by rw [HX.out, HY.out, HV.out]; rfl, HB6.out.drewR⟩
    · have hgt : y.k < x.k := by omega
      have HV := Lib.hid (Key.vord_gt (fun h => hlt (HK.out.1 h)) (HK2.out.2 hgt))
      refine wp_region_plan (.take 0 (.take 1 (.take 2 (.take 3 (.take 4 (.take 5 (.take 6 (.take 7 (.take 8 (.take 9 (.take 10 (.take 11 .fin)))))))))))) (by kernel_rfl) (by kernel_rfl) (by kernel_rfl) (by kernel_rfl) ?_
      repeat' (first | (refine hZ _ _ ?_; clear hZ) | (refine hZ _ ?_; clear hZ) | (refine hZ ?_; clear hZ) | rw [again_nil] | rw [walk_fin] | ((first | rw [walk_take] | rw [walk_run] | rw [again_cons]); intro Z hZ; simp only [sel, List.getElem?_toArray, List.getElem?_cons_zero, List.getElem?_cons_succ]; go_wp2_with (fail)))
      go_wp2_with fail
      go_ret
      exact ⟨by rw [HX.out, HY.out, HV.out]; rfl, HB6.out.drewR⟩
end Go.Proofs.YtpahkaffknnjhaaGreatDoor
end

section
namespace Go.Proofs.YtpahkaffknnjhaaGreatDoor
set_option linter.unusedSimpArgs false
set_option linter.unusedVariables false
open Go.RowKit
namespace Ev
def cmpI (x y : Int) : Int := if x < y then -1 else if y < x then 1 else 0
theorem cmpB : ∀ a b : List UInt8, Lib.compareBytes a b = if Op.bytesLess a b = true then -1 else if Op.bytesLess b a = true then 1 else 0
  | [], [] => by simp [Lib.compareBytes, Op.bytesLess]
  | [], _ :: _ => by simp [Lib.compareBytes, Op.bytesLess]
  | _ :: _, [] => by simp [Lib.compareBytes, Op.bytesLess]
  | a :: x, b :: y => by
    have ih := cmpB x y
    unfold Lib.compareBytes
    by_cases h : a < b
    · simp [h, Op.bytesLess]
    · by_cases h2 : b < a
      · have hne : a ≠ b := fun e => by subst e; exact h h2
        simp [h, h2, hne, Op.bytesLess]
      · have he : a = b := UInt8.le_antisymm (UInt8.not_lt.1 h2) (UInt8.not_lt.1 h)
        subst he
        simp only [h, if_false, ih]
        simp [Op.bytesLess, h]
end Ev
theorem cmpint_any (w : World) (x y : Int) : Calls Tryz.prog 79 #[.int .i64 x, .int .i64 y] w fun e w' => e = .returned (.int .i64 (Ev.cmpI x y)) ∧ w = w' := by
  have HX : Hid (∀ x : Int, Calls Tryz.prog 121 #[.int .i64 x] w fun e w' => e = .returned (.bool false) ∧ w = w') := by
    intro x
    have hne : (x != x) = false := by simp
    go_enter Tryz.func121, Tryz.ntmps121
    go_wp2_with fail
    go_ret
    exact ⟨rfl, rfl⟩
  rcases Int.lt_trichotomy x y with h | h | h
  · have HV : Hid (Ev.cmpI x y = -1) := by show _ = _; unfold Ev.cmpI; rw [if_pos h]
    go_enter Tryz.func79, Tryz.ntmps79
    go_wp2_with fail
    refine (HX.out _).mono ?_
    rintro e wq ⟨rfl, rfl⟩
    go_wp2_with fail
    refine (HX.out _).mono ?_
    rintro e wq ⟨rfl, rfl⟩
    go_wp2_with fail
    go_ret
    exact ⟨by rw [HV.out]; rfl, rfl⟩
  · subst h
    have hn : ¬ x < x := by omega
    have HV : Hid (Ev.cmpI x x = 0) := by show _ = _; unfold Ev.cmpI; rw [if_neg hn, if_neg hn]
    go_enter Tryz.func79, Tryz.ntmps79
    go_wp2_with fail
    refine (HX.out _).mono ?_
    rintro e wq ⟨rfl, rfl⟩
    go_wp2_with fail
    refine (HX.out _).mono ?_
    rintro e wq ⟨rfl, rfl⟩
    go_wp2_with fail
    go_ret
    exact ⟨by rw [HV.out]; rfl, rfl⟩
  · have hn : ¬ x < y := by omega
    have HV : Hid (Ev.cmpI x y = 1) := by show _ = _; unfold Ev.cmpI; rw [if_neg hn, if_pos h]
    go_enter Tryz.func79, Tryz.ntmps79
    go_wp2_with fail
    refine (HX.out _).mono ?_
    rintro e wq ⟨rfl, rfl⟩
    go_wp2_with fail
    refine (HX.out _).mono ?_
    rintro e wq ⟨rfl, rfl⟩
    go_wp2_with fail
    go_ret
    exact ⟨by rw [HV.out]; rfl, rfl⟩
theorem cmpint64_any (w : World) (x y : Int) : Calls Tryz.prog 137 #[.int .i64 x, .int .i64 y] w fun e w' => e = .returned (.int .i64 (Ev.cmpI x y)) ∧ w = w' := by
  have HX : Hid (∀ x : Int, Calls Tryz.prog 165 #[.int .i64 x] w fun e w' => e = .returned (.bool false) ∧ w = w') := by
    intro x
    have hne : (x != x) = false := by simp
    go_enter Tryz.func165, Tryz.ntmps165
    go_wp2_with fail
    go_ret
    exact ⟨rfl, rfl⟩
  rcases Int.lt_trichotomy x y with h | h | h
  · have HV : Hid (Ev.cmpI x y = -1) := by show _ = _; unfold Ev.cmpI; rw [if_pos h]
    go_enter Tryz.func137, Tryz.ntmps137
    go_wp2_with fail
    refine (HX.out _).mono ?_
    rintro e wq ⟨rfl, rfl⟩
    go_wp2_with fail
    refine (HX.out _).mono ?_
    rintro e wq ⟨rfl, rfl⟩
    go_wp2_with fail
    go_ret
    exact ⟨by rw [HV.out]; rfl, rfl⟩
  · subst h
    have hn : ¬ x < x := by omega
    have HV : Hid (Ev.cmpI x x = 0) := by show _ = _; unfold Ev.cmpI; rw [if_neg hn, if_neg hn]
    go_enter Tryz.func137, Tryz.ntmps137
    go_wp2_with fail
    refine (HX.out _).mono ?_
    rintro e wq ⟨rfl, rfl⟩
    go_wp2_with fail
    refine (HX.out _).mono ?_
    rintro e wq ⟨rfl, rfl⟩
    go_wp2_with fail
    go_ret
    exact ⟨by rw [HV.out]; rfl, rfl⟩
  · have hn : ¬ x < y := by omega
    have HV : Hid (Ev.cmpI x y = 1) := by show _ = _; unfold Ev.cmpI; rw [if_neg hn, if_pos h]
    go_enter Tryz.func137, Tryz.ntmps137
    go_wp2_with fail
    refine (HX.out _).mono ?_
    rintro e wq ⟨rfl, rfl⟩
    go_wp2_with fail
    refine (HX.out _).mono ?_
    rintro e wq ⟨rfl, rfl⟩
    go_wp2_with fail
    go_ret
    exact ⟨by rw [HV.out]; rfl, rfl⟩
theorem cmpf_nan (w : World) (x : Nat) (hx : x < two64) (h : ¬ fnan x) : Calls Tryz.prog 163 #[.float .f64 x] w fun e w' => e = .returned (.bool false) ∧ w = w' := by
  have h1 := ford_self hx
  have h2 : (FloatKind.f64.format.order x x != some Ordering.eq) = false := by
    rw [show FloatKind.f64.format.order x x = ford x x from rfl, h1, decide_eq_false h]
  clear h1 hx h
  go_enter Tryz.func163, Tryz.ntmps163
  go_wp2_with fail
  go_ret
  exact ⟨rfl, rfl⟩
theorem cmpfloat_any (w : World) (x y : Nat) (hx : x < two64) (hy : y < two64) (nx : ¬ fnan x) (ny : ¬ fnan y) : Calls Tryz.prog 135 #[.float .f64 x, .float .f64 y] w fun e w' => e = .returned (.int .i64 (Ev.cmpI (fsg x) (fsg y))) ∧ w = w' := by
  have HX := Lib.hid (cmpf_nan w x hx nx)
  have HY := Lib.hid (cmpf_nan w y hy ny)
  have ho : FloatKind.f64.format.order x y = some (compare (fsg x) (fsg y)) := ford_some hx hy nx ny
  clear hx hy nx ny
  rcases Int.lt_trichotomy (fsg x) (fsg y) with h | h | h
  · have HV : Hid (Ev.cmpI (fsg x) (fsg y) = -1) := by show _ = _; unfold Ev.cmpI; rw [if_pos h]
    rw [Std.compare_eq_lt.2 h] at ho
    clear h
    go_enter Tryz.func135, Tryz.ntmps135
    go_wp2_with fail
    refine HX.out.mono ?_
    rintro e wq ⟨rfl, rfl⟩
    go_wp2_with fail
    refine HY.out.mono ?_
    rintro e wq ⟨rfl, rfl⟩
    go_wp2_with fail
    go_ret
    exact ⟨by rw [HV.out]; rfl, rfl⟩
  · have HV : Hid (Ev.cmpI (fsg x) (fsg y) = 0) := by show _ = _; unfold Ev.cmpI; rw [h, if_neg (by omega), if_neg (by omega)]
    rw [h, Std.compare_self] at ho
    clear h
    go_enter Tryz.func135, Tryz.ntmps135
    go_wp2_with fail
    refine HX.out.mono ?_
    rintro e wq ⟨rfl, rfl⟩
    go_wp2_with fail
    refine HY.out.mono ?_
    rintro e wq ⟨rfl, rfl⟩
    go_wp2_with fail
    go_ret
    exact ⟨by rw [HV.out]; rfl, rfl⟩
  · have HV : Hid (Ev.cmpI (fsg x) (fsg y) = 1) := by show _ = _; unfold Ev.cmpI; rw [if_neg (by omega), if_pos h]
    rw [Std.compare_eq_gt.2 h] at ho
    clear h
    go_enter Tryz.func135, Tryz.ntmps135
    go_wp2_with fail
    refine HX.out.mono ?_
    rintro e wq ⟨rfl, rfl⟩
    go_wp2_with fail
    refine HY.out.mono ?_
    rintro e wq ⟨rfl, rfl⟩
    go_wp2_with fail
    go_ret
    exact ⟨by rw [HV.out]; rfl, rfl⟩
set_option maxRecDepth 20000 in
theorem cmpstr_any (w : World) (l m : List UInt8) : Calls Tryz.prog 136 #[txt l, txt m] w fun e w' => e = .returned (.int .i64 (Lib.compareBytes l m)) ∧ w = w' := by
  have hx : (Extern.BytealgCompare.compare #[.string ⟨l.toArray⟩, .string ⟨m.toArray⟩]).run Tryz.prog w = .ok (.int .i64 (Lib.compareBytes l m)) w := Lib.run_compareString _ _ _
  unfold txt
  have HC : Hid (Calls Tryz.prog 164 #[.string ⟨l.toArray⟩, .string ⟨m.toArray⟩] w fun e w' => e = .returned (.int .i64 (Lib.compareBytes l m)) ∧ w = w') := by
    show Calls _ _ _ _ _
    go_enter Tryz.func164, Tryz.ntmps164
    go_wp2_with fail
    rw [run_callFunc_extern Tryz.func178 (by kernel_rfl) (by kernel_rfl) (by kernel_rfl) (e := Extern.BytealgCompare.compare) (by kernel_rfl), hx]
    simp only [Result.andThen]
    rw [Oper.upon_value]
    go_wp2_with fail
    go_ret
    exact ⟨rfl, rfl⟩
  clear hx
  go_enter Tryz.func136, Tryz.ntmps136
  go_wp2_with fail
  refine HC.out.mono ?_
  rintro e wq ⟨rfl, rfl⟩
  go_wp2_with fail
  go_ret
  exact ⟨rfl, rfl⟩
end Go.Proofs.YtpahkaffknnjhaaGreatDoor
end

section
namespace Go.Proofs.YtpahkaffknnjhaaGreatDoor
set_option linter.unusedSimpArgs false
set_option linter.unusedVariables false
open Go.RowKit
theorem Ev.clean_ok {v : Va} (h : v.ok) : (Key.clean v).ok := Key.cleanF_ok (fun _ => Key.real1_lt) h
set_option maxRecDepth 20000 in
set_option maxHeartbeats 4000000 in
theorem pord_any (w : World) (a b : Va) (ha : a.ok) (hb : b.ok) : Calls Tryz.prog 103 #[a.v, b.v] w fun e w' => e = .returned (.int .i64 (Key.vord (Key.clean a) (Key.clean b))) ∧ Below w.heap.size w w' := by
  have HA := Lib.hid ha
  have HB := Lib.hid hb
  have HXO := Lib.hid (Ev.clean_ok ha)
  have HYO := Lib.hid (Ev.clean_ok hb)
  clear ha hb
  go_enter Tryz.func103, Tryz.ntmps103
  go_upto_region 1 with (first | (refine wpList_box_va rfl (.tmp 0) rfl a rfl ?_; intro W1 hb1 hz1 hB1) | (refine wpList_box_va rfl (.tmp 1) rfl b rfl ?_; intro W2 hb2 hz2 hB2))
  have h12 := hb1.below hB2
  have hB := hB1.trans (hB2.mono hB1.size)
  clear hb1 hB1 hB2
  have h1d := h12.drew
  have h2d := hb2.drew
  refine wp_region_plan (.take 0 (.take 2 (.run 1 [2] (.run 3 [] (.run 4 [] (.run 5 [] .fin)))))) (by kernel_rfl) (by kernel_rfl) (by kernel_rfl) (by kernel_rfl) ?_
  repeat' (first | (refine hZ _ _ ?_; clear hZ) | (refine hZ _ ?_; clear hZ) | (refine hZ ?_; clear hZ) | rw [again_nil] | rw [walk_fin] | ((first | rw [walk_take] | rw [walk_run] | rw [again_cons]); intro Z hZ; simp only [sel, List.getElem?_toArray, List.getElem?_cons_zero, List.getElem?_cons_succ]; go_wp2_with (first | (refine wpList_load_va rfl (.tmp 2) rfl w.heap.size rfl h1d ?_) | (refine wpList_load_va rfl (.tmp 3) rfl W1.heap.size rfl h2d ?_))))
  refine (clean_any _ a HA.out).mono ?_
  rintro e W3 ⟨rfl, hB3⟩
  have h1e := h1d.below hB3
  have h2e := h2d.below hB3
  have hBe := hB.drewR.trans (hB3.mono hB.size)
  have hze : W2.heap.size ≤ W3.heap.size := hB3.size
  clear h1d h2d hB3 h12 hb2 hB
  go_wp2_with fail
  repeat' (first | (refine hZ _ _ ?_; clear hZ) | (refine hZ _ ?_; clear hZ) | (refine hZ ?_; clear hZ) | rw [again_nil] | rw [walk_fin] | ((first | rw [walk_take] | rw [walk_run] | rw [again_cons]); intro Z hZ; simp only [sel, List.getElem?_toArray, List.getElem?_cons_zero, List.getElem?_cons_succ]; go_wp2_with (first | (refine wpList_load_va rfl (.tmp 3) rfl W1.heap.size rfl h2e ?_))))
  refine (clean_any _ b HB.out).mono ?_
  rintro e W4 ⟨rfl, hB4⟩
  have h1f := h1e.below hB4
  have h2f := h2e.below hB4
  have hBf := hBe.trans (hB4.mono hBe.size)
  have hzf : W3.heap.size ≤ W4.heap.size := hB4.size
  clear h1e h2e hB4 hBe
  go_wp2_with fail
  repeat' (first | (refine hZ _ _ ?_; clear hZ) | (refine hZ _ ?_; clear hZ) | (refine hZ ?_; clear hZ) | rw [again_nil] | rw [walk_fin] | ((first | rw [walk_take] | rw [walk_run] | rw [again_cons]); intro Z hZ; simp only [sel, List.getElem?_toArray, List.getElem?_cons_zero, List.getElem?_cons_succ]; go_wp2_with (first | (refine wpList_store_va rfl rfl (.tmp 2) (.tmp 8) rfl w.heap.size rfl (Key.clean a) rfl h1f ?_; intro W5 hb5 hg5; have h25 := h2f.grown hg5 (by simp; omega)) | (refine wpList_store_va rfl rfl (.tmp 3) (.tmp 10) rfl W1.heap.size rfl (Key.clean b) rfl h25 ?_; intro W6 hb6 hg6))))
  have h16 : Blk W6 w.heap.size 64 (Key.clean a).cells := hb5.grown hg6 (by simp; omega)
  have hB5 : Below w.heap.size w W5 := below_of_grown hBf hg5 (Nat.le_refl _) (by omega)
  have HB6 : Hid (Below w.heap.size w W6) := below_of_grown hB5 hg6 (by omega) hB5.size
  clear h1f h2f hBf hb5 hg5 h25 hg6 hB5 HA HB
  generalize hX : Key.clean a = x at HXO h16 ⊢
  generalize hY : Key.clean b = y at HYO hb6 ⊢
  have HX := Lib.hid hX
  have HY := Lib.hid hY
  clear hX hY
  clear hze hzf hz1 hz2
  obtain ⟨c0, c1, c2, c3, -⟩ := Blk.c4 h16
  obtain ⟨d0, d1, d2, d3, -⟩ := Blk.c4 hb6
  clear h16 hb6
  by_cases hk : x.k = y.k
  · have hkb : (x.k != y.k) = false := by simp [hk]
    go_upto_region 4 with fail
    have HKK := Lib.hid hk
    clear hk hkb
    by_cases k2 : y.k = 2
    · have HVL := Lib.hid (Key.vless_real HKK.out (by rw [HKK.out]; exact k2))
      have HVG := Lib.hid (Key.vless_real HKK.out.symm k2)
      have k2' : x.k = 2 := HKK.out.trans k2
      rw [k2'] at c0
      clear k2 k2'
      go_upto_region 6 with fail
      by_cases nx : fnan x.f
      · have hdx : decide (fnan x.f) = true := by simp [nx]
        by_cases ny : fnan y.f
        · have hdy : decide (fnan y.f) = true := by simp [ny]
          have HV := Lib.hid (Key.vord_eq (a := x) (b := y) (fun h => by rcases HVL.out.1 h with h | h <;> exact h.1 nx) (fun h => by rcases HVG.out.1 h with h | h <;> exact h.1 ny))
          clear nx ny
          refine wp_region_plan (.take 0 (.take 1 (.take 3 (.take 4 (.run 2 [3, 4] (.run 5 [] (.take 6 (.take 7 .fin)))))))) (by kernel_rfl) (by kernel_rfl) (by kernel_rfl) (by kernel_rfl) ?_
          repeat' (first | (refine hZ _ _ ?_; clear hZ) | (refine hZ _ ?_; clear hZ) | (refine hZ ?_; clear hZ) | rw [again_nil] | rw [walk_fin] | ((first | rw [walk_take] | rw [walk_run] | rw [again_cons]); intro Z hZ; simp only [sel, List.getElem?_toArray, List.getElem?_cons_zero, List.getElem?_cons_succ]; go_wp2_with (fail)))
          refine (isnan_any _ _ HXO.out.f1).mono ?_
          rintro e wq ⟨rfl, hwq⟩
          rw [hwq, hdx]
          clear hwq wq
          go_wp2_with fail
          repeat' (first | (refine hZ _ _ ?_; clear hZ) | (refine hZ _ ?_; clear hZ) | (refine hZ ?_; clear hZ) | rw [again_nil] | rw [walk_fin] | ((first | rw [walk_take] | rw [walk_run] | rw [again_cons]); intro Z hZ; simp only [sel, List.getElem?_toArray, List.getElem?_cons_zero, List.getElem?_cons_succ]; go_wp2_with (fail)))
          refine (isnan_any _ _ HYO.out.f1).mono ?_
          rintro e wq ⟨rfl, hwq⟩
          rw [hwq, hdy]
          clear hwq wq
          go_wp2_with fail
          repeat' (first | (refine hZ _ _ ?_; clear hZ) | (refine hZ _ ?_; clear hZ) | (refine hZ ?_; clear hZ) | rw [again_nil] | rw [walk_fin] | ((first | rw [walk_take] | rw [walk_run] | rw [again_cons]); intro Z hZ; simp only [sel, List.getElem?_toArray, List.getElem?_cons_zero, List.getElem?_cons_succ]; go_wp2_with (fail)))
          go_wp2_with fail
          go_ret
          exact ⟨by rw [HX.out, HY.out, HV.out]; rfl, HB6.out.drewR⟩
        · have hdy : decide (fnan y.f) = false := by simp [ny]
          have HV := Lib.hid (Key.vord_gt (a := x) (b := y) (fun h => by rcases HVL.out.1 h with h | h <;> exact h.1 nx) (HVG.out.2 (.inl ⟨ny, nx⟩)))
          clear nx ny
          refine wp_region_plan (.take 0 (.take 1 (.take 3 (.take 4 (.run 2 [3, 4] (.run 5 [] (.take 6 (.take 7 .fin)))))))) (by kernel_rfl) (by kernel_rfl) (by kernel_rfl) (by kernel_rfl) ?_
          repeat' (first | (refine hZ _ _ ?_; clear hZ) | (refine hZ _ ?_; clear hZ) | (refine hZ ?_; clear hZ) | rw [again_nil] | rw [walk_fin] | ((first | rw [walk_take] | rw [walk_run] | rw [again_cons]); intro Z hZ; simp only [sel, List.getElem?_toArray, List.getElem?_cons_zero, List.getElem?_cons_succ]; go_wp2_with (fail)))
          refine (isnan_any _ _ HXO.out.f1).mono ?_
          rintro e wq ⟨rfl, hwq⟩
          rw [hwq, hdx]
          clear hwq wq
          go_wp2_with fail
          repeat' (first | (refine hZ _ _ ?_; clear hZ) | (refine hZ _ ?_; clear hZ) | (refine hZ ?_; clear hZ) | rw [again_nil] | rw [walk_fin] | ((first | rw [walk_take] | rw [walk_run] | rw [again_cons]); intro Z hZ; simp only [sel, List.getElem?_toArray, List.getElem?_cons_zero, List.getElem?_cons_succ]; go_wp2_with (fail)))
          refine (isnan_any _ _ HYO.out.f1).mono ?_
          rintro e wq ⟨rfl, hwq⟩
          rw [hwq, hdy]
          clear hwq wq
          go_wp2_with fail
          repeat' (first | (refine hZ _ _ ?_; clear hZ) | (refine hZ _ ?_; clear hZ) | (refine hZ ?_; clear hZ) | rw [again_nil] | rw [walk_fin] | ((first | rw [walk_take] | rw [walk_run] | rw [again_cons]); intro Z hZ; simp only [sel, List.getElem?_toArray, List.getElem?_cons_zero, List.getElem?_cons_succ]; go_wp2_with (fail)))
          go_wp2_with fail
          go_ret
          exact ⟨by rw [HX.out, HY.out, HV.out]; rfl, HB6.out.drewR⟩
      · have hdx : decide (fnan x.f) = false := by simp [nx]
        by_cases ny : fnan y.f
        · have hdy : decide (fnan y.f) = true := by simp [ny]
          have HV := Lib.hid (Key.vord_lt (a := x) (b := y) (HVL.out.2 (.inl ⟨nx, ny⟩)))
          clear nx ny
          refine wp_region_plan (.take 0 (.take 1 (.take 3 (.take 4 (.run 2 [3, 4] (.run 5 [] (.take 6 (.take 7 .fin)))))))) (by kernel_rfl) (by kernel_rfl) (by kernel_rfl) (by kernel_rfl) ?_
          repeat' (first | (refine hZ _ _ ?_; clear hZ) | (refine hZ _ ?_; clear hZ) | (refine hZ ?_; clear hZ) | rw [again_nil] | rw [walk_fin] | ((first | rw [walk_take] | rw [walk_run] | rw [again_cons]); intro Z hZ; simp only [sel, List.getElem?_toArray, List.getElem?_cons_zero, List.getElem?_cons_succ]; go_wp2_with (fail)))
          refine (isnan_any _ _ HXO.out.f1).mono ?_
          rintro e wq ⟨rfl, hwq⟩
          rw [hwq, hdx]
          clear hwq wq
          go_wp2_with fail
          repeat' (first | (refine hZ _ _ ?_; clear hZ) | (refine hZ _ ?_; clear hZ) | (refine hZ ?_; clear hZ) | rw [again_nil] | rw [walk_fin] | ((first | rw [walk_take] | rw [walk_run] | rw [again_cons]); intro Z hZ; simp only [sel, List.getElem?_toArray, List.getElem?_cons_zero, List.getElem?_cons_succ]; go_wp2_with (fail)))
          refine (isnan_any _ _ HYO.out.f1).mono ?_
          rintro e wq ⟨rfl, hwq⟩
          rw [hwq, hdy]
          clear hwq wq
          go_wp2_with fail
          repeat' (first | (refine hZ _ _ ?_; clear hZ) | (refine hZ _ ?_; clear hZ) | (refine hZ ?_; clear hZ) | rw [again_nil] | rw [walk_fin] | ((first | rw [walk_take] | rw [walk_run] | rw [again_cons]); intro Z hZ; simp only [sel, List.getElem?_toArray, List.getElem?_cons_zero, List.getElem?_cons_succ]; go_wp2_with (fail)))
          go_wp2_with fail
          go_ret
          exact ⟨by rw [HX.out, HY.out, HV.out]; rfl, HB6.out.drewR⟩
        · have hdy : decide (fnan y.f) = false := by simp [ny]
          have HV : Hid (Key.vord x y = Ev.cmpI (fsg x.f) (fsg y.f)) := by
            show _ = _
            unfold Ev.cmpI
            rcases Int.lt_trichotomy (fsg x.f) (fsg y.f) with h | h | h
            · rw [if_pos h]; exact Key.vord_lt (HVL.out.2 (.inr ⟨nx, ny, h⟩))
            · rw [if_neg (by omega), if_neg (by omega)]
              exact Key.vord_eq (fun h' => (HVL.out.1 h').elim (fun h' => ny h'.2) (fun h' => absurd h'.2.2 (by omega))) (fun h' => (HVG.out.1 h').elim (fun h' => nx h'.2) (fun h' => absurd h'.2.2 (by omega)))
            · rw [if_neg (by omega), if_pos h]
              exact Key.vord_gt (fun h' => (HVL.out.1 h').elim (fun h' => ny h'.2) (fun h' => absurd h'.2.2 (by omega))) (HVG.out.2 (.inr ⟨ny, nx, h⟩))
          have HCF := Lib.hid (fun w => cmpfloat_any w x.f y.f HXO.out.f1 HYO.out.f1 nx ny)
          clear nx ny
          refine wp_region_plan (.take 0 (.take 1 (.take 3 (.take 4 (.run 2 [3, 4] (.run 5 [] (.take 6 (.take 7 .fin)))))))) (by kernel_rfl) (by kernel_rfl) (by kernel_rfl) (by kernel_rfl) ?_
          repeat' (first | (refine hZ _ _ ?_; clear hZ) | (refine hZ _ ?_; clear hZ) | (refine hZ ?_; clear hZ) | rw [again_nil] | rw [walk_fin] | ((first | rw [walk_take] | rw [walk_run] | rw [again_cons]); intro Z hZ; simp only [sel, List.getElem?_toArray, List.getElem?_cons_zero, List.getElem?_cons_succ]; go_wp2_with (fail)))
          refine (isnan_any _ _ HXO.out.f1).mono ?_
          rintro e wq ⟨rfl, hwq⟩
          rw [hwq, hdx]
          clear hwq wq
          go_wp2_with fail
          repeat' (first | (refine hZ _ _ ?_; clear hZ) | (refine hZ _ ?_; clear hZ) | (refine hZ ?_; clear hZ) | rw [again_nil] | rw [walk_fin] | ((first | rw [walk_take] | rw [walk_run] | rw [again_cons]); intro Z hZ; simp only [sel, List.getElem?_toArray, List.getElem?_cons_zero, List.getElem?_cons_succ]; go_wp2_with (fail)))
          refine (isnan_any _ _ HYO.out.f1).mono ?_
          rintro e wq ⟨rfl, hwq⟩
          rw [hwq, hdy]
          clear hwq wq
          go_wp2_with fail
          repeat' (first | (refine hZ _ _ ?_; clear hZ) | (refine hZ _ ?_; clear hZ) | (refine hZ ?_; clear hZ) | rw [again_nil] | rw [walk_fin] | ((first | rw [walk_take] | rw [walk_run] | rw [again_cons]); intro Z hZ; simp only [sel, List.getElem?_toArray, List.getElem?_cons_zero, List.getElem?_cons_succ]; go_wp2_with (fail)))
          go_wp2_with fail
          refine (HCF.out _).mono ?_
          rintro e wq ⟨rfl, rfl⟩
          go_wp2_with fail
          go_ret
          exact ⟨by rw [HX.out, HY.out, HV.out]; rfl, HB6.out.drewR⟩
    by_cases k3 : y.k = 3
    · have HVL := Lib.hid (Key.vless_text HKK.out (by rw [HKK.out]; exact k3))
      have HVG := Lib.hid (Key.vless_text HKK.out.symm k3)
      have k3' : x.k = 3 := HKK.out.trans k3
      rw [k3'] at c0
      clear k2 k3 k3'
      have HV : Hid (Key.vord x y = Lib.compareBytes x.s y.s) := by
        show _ = _
        rw [Ev.cmpB]
        unfold Key.vord
        simp only [HVL.out, HVG.out]
      go_wp2_with fail
      refine (cmpstr_any _ x.s y.s).mono ?_
      rintro e wq ⟨rfl, rfl⟩
      go_wp2_with fail
      go_ret
      exact ⟨by rw [HX.out, HY.out, HV.out]; rfl, HB6.out⟩
    · have HV : Hid (Key.vord x y = Ev.cmpI x.n y.n) := by
        show _ = _
        unfold Key.vord Ev.cmpI
        simp only [Key.vless_num HKK.out (by rw [HKK.out]; exact k2) (by rw [HKK.out]; exact k3), Key.vless_num HKK.out.symm k2 k3]
      have k2' : (x.k == 2) = false := by rw [HKK.out]; simp [k2]
      have k3' : (x.k == 3) = false := by rw [HKK.out]; simp [k3]
      clear k2 k3
      go_wp2_with fail
      refine (cmpint64_any _ x.n y.n).mono ?_
      rintro e wq ⟨rfl, rfl⟩
      go_wp2_with fail
      go_ret
      exact ⟨by rw [HX.out, HY.out, HV.out]; rfl, HB6.out⟩
  · have HV : Hid (Key.vord x y = Ev.cmpI x.k y.k) := by
      show _ = _
      unfold Key.vord Ev.cmpI
      simp only [Key.vless_kind hk, Key.vless_kind (Ne.symm hk)]
    have hkb : (x.k != y.k) = true := by simp [hk]
    clear hk
    go_wp2_with fail
    refine (cmpint_any _ x.k y.k).mono ?_
    rintro e wq ⟨rfl, rfl⟩
    go_wp2_with fail
    go_ret
    exact ⟨by rw [HX.out, HY.out, HV.out]; rfl, HB6.out⟩
end Go.Proofs.YtpahkaffknnjhaaGreatDoor
end

section
namespace Go.Proofs.YtpahkaffknnjhaaGreatDoor
set_option linter.unusedSimpArgs false
set_option linter.unusedVariables false
open Go.RowKit
theorem txt_list (l : List UInt8) : (ByteArray.mk l.toArray).toList = l := by rw [Lib.toList_data]
theorem run_str_ne (l m : List UInt8) (w : World) : (binOp .neq 9 (txt l) (txt m)).run Tryz.prog w = .ok (.bool (!(l == m))) w := by
  unfold txt
  rw [binOp_string_neq, txt_list, txt_list]
  rfl
theorem run_str_eq (l m : List UInt8) (w : World) : (binOp .eql 9 (txt l) (txt m)).run Tryz.prog w = .ok (.bool (l == m)) w := by
  unfold txt
  rw [binOp_string_eql, txt_list, txt_list]
  rfl
theorem run_str_lt (l m : List UInt8) (w : World) : (binOp .lss 9 (txt l) (txt m)).run Tryz.prog w = .ok (.bool (Op.bytesLess l m)) w := by
  unfold txt
  rw [binOp_string_lss, txt_list, txt_list]
  rfl
theorem eqg_ne (t : TypeId) (x y : Operand) (l m : List UInt8) : eqGuard .neq t x y (txt l) (txt m) = pure () := rfl
theorem eqg_eq (t : TypeId) (x y : Operand) (l m : List UInt8) : eqGuard .eql t x y (txt l) (txt m) = pure () := rfl
theorem kreadid_id (w : World) (A : Option Addr) (c : Nat) (n : Int) (h1 : -9223372036854775808 ≤ n) (h2 : n ≤ 9223372036854775807) (hr : BRow w A (Key.id n)) (hc : 8 ≤ c) :
    Calls Tryz.prog 147 #[.slice A 8 c] w fun e w' => w' = w ∧ e = .returned (.tuple #[.int .i64 n, .int .i64 0]) := by
  have K := kreadid_any w A c (Key.id n) hr (by rw [Key.id_length]; exact hc) (by rw [Key.id_length]; decide)
  have hx := xor_id h1 h2
  rw [IntWalk.i64_left] at hx
  rw [Key.id_length, if_neg (by decide), if_neg (by decide), Key.lo_id h1 h2, hx] at K
  exact K
end Go.Proofs.YtpahkaffknnjhaaGreatDoor
end

section
namespace Go.Proofs.YtpahkaffknnjhaaGreatDoor
set_option linter.unusedSimpArgs false
set_option linter.unusedVariables false
open Go.RowKit
set_option maxRecDepth 20000 in
theorem vtruth_any (w : World) (v : Va) : Calls Tryz.prog 92 #[v.v] w fun e w' => e = .returned (.int .i64 (Ev.tru v)) ∧ Below w.heap.size w w' := by
  by_cases h4 : v.k = 4
  · by_cases hn : v.n = 0
    · have HV : Hid (Ev.tru v = 0) := by show _ = _; unfold Ev.tru; simp [h4, hn]
      go_enter Tryz.func92, Tryz.ntmps92
      go_upto_region 1 with (refine wpList_box_va rfl (.tmp 0) rfl v rfl ?_; intro W1 hb1 hz1 hB1)
      obtain ⟨c0, c1, -⟩ := Blk.c4 hb1
      rw [h4] at c0
      rw [hn] at c1
      clear h4 hn hb1 hz1
      go_wp2_with fail
      go_ret
      exact ⟨by rw [HV.out]; rfl, hB1⟩
    · have HV : Hid (Ev.tru v = 1) := by show _ = _; unfold Ev.tru; simp [h4, hn]
      go_enter Tryz.func92, Tryz.ntmps92
      go_upto_region 1 with (refine wpList_box_va rfl (.tmp 0) rfl v rfl ?_; intro W1 hb1 hz1 hB1)
      obtain ⟨c0, c1, -⟩ := Blk.c4 hb1
      rw [h4] at c0
      have hnb : (v.n != 0) = true := by simp [hn]
      clear h4 hn hb1 hz1
      go_wp2_with fail
      go_ret
      exact ⟨by rw [HV.out]; rfl, hB1⟩
  · have HV : Hid (Ev.tru v = -1) := by show _ = _; unfold Ev.tru; simp [h4]
    go_enter Tryz.func92, Tryz.ntmps92
    go_upto_region 1 with (refine wpList_box_va rfl (.tmp 0) rfl v rfl ?_; intro W1 hb1 hz1 hB1)
    obtain ⟨c0, c1, -⟩ := Blk.c4 hb1
    have hkb : (v.k != 4) = true := by simp [h4]
    clear h4 hb1 hz1
    go_wp2_with fail
    go_ret
    exact ⟨by rw [HV.out]; rfl, hB1⟩
theorem boolV_v (x : Bool) : (⟨4, if x then 1 else 0, 0, []⟩ : Va) = Ev.boolV x := rfl
set_option maxRecDepth 20000 in
theorem vof_any (w : World) (t : Int) : Calls Tryz.prog 102 #[.int .i64 t] w (RetV w (Ev.ofT t)) := by
  by_cases h : t < 0
  · have HV : Hid (Ev.ofT t = Key.nul) := by show _ = _; unfold Ev.ofT; rw [if_pos h]
    go_enter Tryz.func102, Tryz.ntmps102
    go_wp2_with (first | (refine wpList_alloc_va rfl rfl ?_; intro W1 hb1 hz1 hB1) | (refine wpList_store_va rfl rfl (.tmp 2) (.tmp 5) rfl w.heap.size rfl Key.nul rfl hb1 ?_; intro W2 hb2 hg2))
    exact ret_va hb2 rfl rfl rfl ⟨by rw [HV.out], below_of_grown hB1 hg2 (Nat.le_refl _) (by omega)⟩
  · have HV : Hid (Ev.ofT t = Ev.boolV (t == 1)) := by show _ = _; unfold Ev.ofT; rw [if_neg h]
    go_enter Tryz.func102, Tryz.ntmps102
    go_wp2_with (first | (refine wpList_alloc_va rfl rfl ?_; intro W1 hb1 hz1 hB1))
    refine (ofbool_any _ (t == 1)).mono ?_
    rintro e W2 ⟨rfl, hB2⟩
    rw [boolV_v]
    have hb2 := hb1.below hB2
    have HB2 := Lib.hid (hB1.then hB2)
    clear hb1 hB1 hB2 hz1
    generalize Ev.boolV (t == 1) = d at HV ⊢
    go_wp2_with (refine wpList_store_va rfl rfl (.tmp 2) (.tmp 8) rfl w.heap.size rfl d rfl hb2 ?_; intro W3 hb3 hg3)
    exact ret_va hb3 rfl rfl rfl ⟨by rw [HV.out], below_of_grown HB2.out hg3 (Nat.le_refl _) HB2.out.size⟩
set_option maxRecDepth 20000 in
theorem vtrue_any (w : World) (v : Va) : Calls Tryz.prog 44 #[v.v] w fun e w' => e = .returned (.bool (Ev.tru v == 1)) ∧ Below w.heap.size w w' := by
  go_enter Tryz.func44, Tryz.ntmps44
  go_upto_region 1 with (refine wpList_box_va rfl (.tmp 0) rfl v rfl ?_; intro W1 hb1 hz1 hB1)
  go_wp2_with (refine wpList_load_va rfl (.tmp 1) rfl w.heap.size rfl hb1 ?_)
  refine (vtruth_any _ v).mono ?_
  rintro e W2 ⟨rfl, hB2⟩
  have HB2 := Lib.hid (hB1.then hB2)
  clear hb1 hB1 hB2 hz1
  go_wp2_with fail
  go_ret
  exact ⟨rfl, HB2.out⟩
set_option maxRecDepth 20000 in
theorem vnot_any (w : World) (v : Va) : Calls Tryz.prog 62 #[v.v] w (RetV w (Ev.notV v)) := by
  go_enter Tryz.func62, Tryz.ntmps62
  go_upto_region 1 with (first | (refine wpList_box_va rfl (.tmp 0) rfl v rfl ?_; intro W1 hb1 hz1 hB1) | (refine wpList_alloc_va rfl rfl ?_; intro W2 hb2 hz2 hB2))
  have h12 := hb1.below hB2
  have HB2 := Lib.hid (hB1.trans (hB2.mono hB1.size))
  clear hb1 hB1 hB2 hz2
  generalize W1.heap.size = g at hb2 hz1 ⊢
  go_wp2_with (refine wpList_load_va rfl (.tmp 1) rfl w.heap.size rfl h12 ?_)
  refine (vtruth_any _ v).mono ?_
  rintro e W3 ⟨rfl, hB3⟩
  have HB2 := Lib.hid (HB2.out.then hB3)
  have hb2 := hb2.below hB3
  clear hB3 h12
  have hr : -1 ≤ Ev.tru v ∧ Ev.tru v ≤ 1 := by unfold Ev.tru; (repeat' split) <;> omega
  have HVV : Hid (Ev.notV v = if 0 ≤ Ev.tru v then Ev.ofT (1 - Ev.tru v) else Ev.ofT (-1)) := rfl
  generalize Ev.tru v = t at hr HVV ⊢
  rcases (show t = -1 ∨ t = 0 ∨ t = 1 by omega) with rfl | rfl | rfl
  · have HV : Hid (Ev.notV v = Ev.ofT (-1)) := by show _ = _; rw [HVV.out]; rfl
    go_wp2_with fail
    refine (vof_any _ _).mono ?_
    rintro e W3 ⟨rfl, hB3⟩
    have hb3 := hb2.below hB3
    have HB3 := Lib.hid (HB2.out.then hB3)
    clear hB3 hb2 HB2
    generalize Ev.ofT (-1) = d at HV ⊢
    go_wp2_with (refine wpList_store_va rfl rfl (.tmp 2) (.tmp 11) rfl g rfl d rfl hb3 ?_; intro W4 hb4 hg4)
    exact ret_va hb4 rfl rfl rfl ⟨by rw [HV.out], below_of_grown HB3.out hg4 (by omega) HB3.out.size⟩
  · have HV : Hid (Ev.notV v = Ev.ofT 1) := by show _ = _; rw [HVV.out]; rfl
    go_wp2_with fail
    refine (vof_any _ _).mono ?_
    rintro e W3 ⟨rfl, hB3⟩
    have hb3 := hb2.below hB3
    have HB3 := Lib.hid (HB2.out.then hB3)
    clear hB3 hb2 HB2
    generalize Ev.ofT 1 = d at HV ⊢
    go_wp2_with (refine wpList_store_va rfl rfl (.tmp 2) (.tmp 10) rfl g rfl d rfl hb3 ?_; intro W4 hb4 hg4)
    exact ret_va hb4 rfl rfl rfl ⟨by rw [HV.out], below_of_grown HB3.out hg4 (by omega) HB3.out.size⟩
  · have HV : Hid (Ev.notV v = Ev.ofT 0) := by show _ = _; rw [HVV.out]; rfl
    go_wp2_with fail
    refine (vof_any _ _).mono ?_
    rintro e W3 ⟨rfl, hB3⟩
    have hb3 := hb2.below hB3
    have HB3 := Lib.hid (HB2.out.then hB3)
    clear hB3 hb2 HB2
    generalize Ev.ofT 0 = d at HV ⊢
    go_wp2_with (refine wpList_store_va rfl rfl (.tmp 2) (.tmp 10) rfl g rfl d rfl hb3 ?_; intro W4 hb4 hg4)
    exact ret_va hb4 rfl rfl rfl ⟨by rw [HV.out], below_of_grown HB3.out hg4 (by omega) HB3.out.size⟩
theorem Ev.tru_range (v : Va) : -1 ≤ Ev.tru v ∧ Ev.tru v ≤ 1 := by unfold Ev.tru; (repeat' split) <;> omega
set_option maxRecDepth 20000 in
set_option maxHeartbeats 2000000 in
theorem vand_any (w : World) (a b : Va) : Calls Tryz.prog 63 #[a.v, b.v] w (RetV w (Ev.andV a b)) := by
  go_enter Tryz.func63, Tryz.ntmps63
  go_upto_region 1 with (first | (refine wpList_box_va rfl (.tmp 0) rfl a rfl ?_; intro W1 hb1 hz1 hB1) | (refine wpList_box_va rfl (.tmp 1) rfl b rfl ?_; intro W2 hb2 hz2 hB2) | (refine wpList_alloc_va rfl rfl ?_; intro W3 hb3 hz3 hB3))
  have h1 := ((hb1.below hB2).below hB3).drew
  have h2 := (hb2.below hB3).drew
  have h4 := hb3.drew
  have HB3 := Lib.hid ((hB1.then hB2).then hB3).drewR
  have hw1 : w.heap.size ≤ W2.heap.size := by have := hB1.size; have := hB2.size; omega
  clear hb1 hb2 hb3 hB1 hB2 hB3 hz2 hz3
  generalize W2.heap.size = g at h4 hw1 ⊢
  generalize W1.heap.size = gb at h2 ⊢
  refine wp_region_plan (.take 0 (.take 2 (.run 1 [2] (.run 3 [] (.take 4 (.take 5 .fin)))))) (by kernel_rfl) (by kernel_rfl) (by kernel_rfl) (by kernel_rfl) ?_
  repeat' (first | (refine hZ _ _ ?_; clear hZ) | (refine hZ _ ?_; clear hZ) | (refine hZ ?_; clear hZ) | rw [again_nil] | rw [walk_fin] | ((first | rw [walk_take] | rw [walk_run] | rw [again_cons]); intro Z hZ; simp only [sel, List.getElem?_toArray, List.getElem?_cons_zero, List.getElem?_cons_succ]; go_wp2_with (first | (refine wpList_load_va rfl (.tmp 2) rfl w.heap.size rfl h1 ?_) | (refine wpList_load_va rfl (.tmp 3) rfl gb rfl h2 ?_))))
  refine (vtruth_any _ a).mono ?_
  rintro e W4 ⟨rfl, hB4⟩
  have h1 := h1.below hB4
  have h2 := h2.below hB4
  have h4 := h4.below hB4
  have HB4 := Lib.hid (HB3.out.trans (hB4.mono HB3.out.size))
  clear hB4 HB3
  go_wp2_with fail
  repeat' (first | (refine hZ _ _ ?_; clear hZ) | (refine hZ _ ?_; clear hZ) | (refine hZ ?_; clear hZ) | rw [again_nil] | rw [walk_fin] | ((first | rw [walk_take] | rw [walk_run] | rw [again_cons]); intro Z hZ; simp only [sel, List.getElem?_toArray, List.getElem?_cons_zero, List.getElem?_cons_succ]; go_wp2_with (first | (refine wpList_load_va rfl (.tmp 2) rfl w.heap.size rfl h1 ?_) | (refine wpList_load_va rfl (.tmp 3) rfl gb rfl h2 ?_))))
  refine (vtruth_any _ b).mono ?_
  rintro e W5 ⟨rfl, hB5⟩
  have h4 := h4.below hB5
  have HB5 := Lib.hid (HB4.out.then hB5)
  clear hB5 HB4 h1 h2
  go_wp2_with fail
  repeat' (first | (refine hZ _ _ ?_; clear hZ) | (refine hZ _ ?_; clear hZ) | (refine hZ ?_; clear hZ) | rw [again_nil] | rw [walk_fin] | ((first | rw [walk_take] | rw [walk_run] | rw [again_cons]); intro Z hZ; simp only [sel, List.getElem?_toArray, List.getElem?_cons_zero, List.getElem?_cons_succ]; go_wp2_with (fail)))
  have hr1 := Ev.tru_range a
  have hr2 := Ev.tru_range b
  have HVV : Hid (Ev.andV a b = if Ev.tru a = 0 ∨ Ev.tru b = 0 then Ev.ofT 0 else if Ev.tru a < 0 ∨ Ev.tru b < 0 then Ev.ofT (-1) else Ev.ofT 1) := rfl
  generalize Ev.tru a = x at hr1 HVV ⊢
  generalize Ev.tru b = y at hr2 HVV ⊢
  by_cases h0 : x = 0 ∨ y = 0
  · have HV : Hid (Ev.andV a b = Ev.ofT 0) := by show _ = _; rw [HVV.out, if_pos h0]
    rcases h0 with rfl | rfl
    · go_wp2_with fail
      refine (vof_any _ _).mono ?_
      rintro e W6 ⟨rfl, hB6⟩
      have hb6 := h4.below hB6
      have HB6 := Lib.hid (HB5.out.then hB6)
      clear hB6 h4 HB5
      generalize Ev.ofT 0 = d at HV ⊢
      go_wp2_with (refine wpList_store_va rfl rfl (.tmp 4) (.tmp 18) rfl g rfl d rfl hb6 ?_; intro W7 hb7 hg7)
      exact ret_va hb7 rfl rfl rfl ⟨by rw [HV.out], below_of_grown HB6.out hg7 (by omega) HB6.out.size⟩
    · by_cases hx0 : x = 0
      · subst hx0
        go_wp2_with fail
        refine (vof_any _ _).mono ?_
        rintro e W6 ⟨rfl, hB6⟩
        have hb6 := h4.below hB6
        have HB6 := Lib.hid (HB5.out.then hB6)
        clear hB6 h4 HB5
        generalize Ev.ofT 0 = d at HV ⊢
        go_wp2_with (refine wpList_store_va rfl rfl (.tmp 4) (.tmp 18) rfl g rfl d rfl hb6 ?_; intro W7 hb7 hg7)
        exact ret_va hb7 rfl rfl rfl ⟨by rw [HV.out], below_of_grown HB6.out hg7 (by omega) HB6.out.size⟩
      · have hxb : (x == 0) = false := by simp [hx0]
        clear hx0
        go_wp2_with fail
        refine (vof_any _ _).mono ?_
        rintro e W6 ⟨rfl, hB6⟩
        have hb6 := h4.below hB6
        have HB6 := Lib.hid (HB5.out.then hB6)
        clear hB6 h4 HB5
        generalize Ev.ofT 0 = d at HV ⊢
        go_wp2_with (refine wpList_store_va rfl rfl (.tmp 4) (.tmp 18) rfl g rfl d rfl hb6 ?_; intro W7 hb7 hg7)
        exact ret_va hb7 rfl rfl rfl ⟨by rw [HV.out], below_of_grown HB6.out hg7 (by omega) HB6.out.size⟩
  · have hx0 : (x == 0) = false := by simp; omega
    have hy0 : (y == 0) = false := by simp; omega
    by_cases hn : x < 0 ∨ y < 0
    · have HV : Hid (Ev.andV a b = Ev.ofT (-1)) := by show _ = _; rw [HVV.out, if_neg h0, if_pos hn]
      clear h0
      by_cases hx : x < 0
      · clear hn
        go_wp2_with fail
        refine (vof_any _ _).mono ?_
        rintro e W6 ⟨rfl, hB6⟩
        have hb6 := h4.below hB6
        have HB6 := Lib.hid (HB5.out.then hB6)
        clear hB6 h4 HB5
        generalize Ev.ofT (-1) = d at HV ⊢
        go_wp2_with (refine wpList_store_va rfl rfl (.tmp 4) (.tmp 26) rfl g rfl d rfl hb6 ?_; intro W7 hb7 hg7)
        exact ret_va hb7 rfl rfl rfl ⟨by rw [HV.out], below_of_grown HB6.out hg7 (by omega) HB6.out.size⟩
      · have hy : y < 0 := by omega
        clear hn
        go_wp2_with fail
        refine (vof_any _ _).mono ?_
        rintro e W6 ⟨rfl, hB6⟩
        have hb6 := h4.below hB6
        have HB6 := Lib.hid (HB5.out.then hB6)
        clear hB6 h4 HB5
        generalize Ev.ofT (-1) = d at HV ⊢
        go_wp2_with (refine wpList_store_va rfl rfl (.tmp 4) (.tmp 26) rfl g rfl d rfl hb6 ?_; intro W7 hb7 hg7)
        exact ret_va hb7 rfl rfl rfl ⟨by rw [HV.out], below_of_grown HB6.out hg7 (by omega) HB6.out.size⟩
    · have HV : Hid (Ev.andV a b = Ev.ofT 1) := by show _ = _; rw [HVV.out, if_neg h0, if_neg hn]
      have hx : ¬ x < 0 := by omega
      have hy : ¬ y < 0 := by omega
      clear h0 hn
      go_wp2_with fail
      refine (vof_any _ _).mono ?_
      rintro e W6 ⟨rfl, hB6⟩
      have hb6 := h4.below hB6
      have HB6 := Lib.hid (HB5.out.then hB6)
      clear hB6 h4 HB5
      generalize Ev.ofT 1 = d at HV ⊢
      go_wp2_with (refine wpList_store_va rfl rfl (.tmp 4) (.tmp 27) rfl g rfl d rfl hb6 ?_; intro W7 hb7 hg7)
      exact ret_va hb7 rfl rfl rfl ⟨by rw [HV.out], below_of_grown HB6.out hg7 (by omega) HB6.out.size⟩
set_option maxRecDepth 20000 in
set_option maxHeartbeats 2000000 in
theorem vor_any (w : World) (a b : Va) : Calls Tryz.prog 64 #[a.v, b.v] w (RetV w (Ev.orV a b)) := by
  go_enter Tryz.func64, Tryz.ntmps64
  go_upto_region 1 with (first | (refine wpList_box_va rfl (.tmp 0) rfl a rfl ?_; intro W1 hb1 hz1 hB1) | (refine wpList_box_va rfl (.tmp 1) rfl b rfl ?_; intro W2 hb2 hz2 hB2) | (refine wpList_alloc_va rfl rfl ?_; intro W3 hb3 hz3 hB3))
  have h1 := ((hb1.below hB2).below hB3).drew
  have h2 := (hb2.below hB3).drew
  have h4 := hb3.drew
  have HB3 := Lib.hid ((hB1.then hB2).then hB3).drewR
  have hw1 : w.heap.size ≤ W2.heap.size := by have := hB1.size; have := hB2.size; omega
  clear hb1 hb2 hb3 hB1 hB2 hB3 hz2 hz3
  generalize W2.heap.size = g at h4 hw1 ⊢
  generalize W1.heap.size = gb at h2 ⊢
  refine wp_region_plan (.take 0 (.take 2 (.run 1 [2] (.run 3 [] (.run 4 [] (.run 5 [] (.run 6 [] .fin))))))) (by kernel_rfl) (by kernel_rfl) (by kernel_rfl) (by kernel_rfl) ?_
  repeat' (first | (refine hZ _ _ ?_; clear hZ) | (refine hZ _ ?_; clear hZ) | (refine hZ ?_; clear hZ) | rw [again_nil] | rw [walk_fin] | ((first | rw [walk_take] | rw [walk_run] | rw [again_cons]); intro Z hZ; simp only [sel, List.getElem?_toArray, List.getElem?_cons_zero, List.getElem?_cons_succ]; go_wp2_with (first | (refine wpList_load_va rfl (.tmp 2) rfl w.heap.size rfl h1 ?_) | (refine wpList_load_va rfl (.tmp 3) rfl gb rfl h2 ?_))))
  refine (vnot_any _ a).mono ?_
  rintro e W4 ⟨rfl, hB4⟩
  have h1 := h1.below hB4
  have h2 := h2.below hB4
  have h4 := h4.below hB4
  have HB4 := Lib.hid (HB3.out.trans (hB4.mono HB3.out.size))
  clear hB4 HB3
  go_wp2_with fail
  repeat' (first | (refine hZ _ _ ?_; clear hZ) | (refine hZ _ ?_; clear hZ) | (refine hZ ?_; clear hZ) | rw [again_nil] | rw [walk_fin] | ((first | rw [walk_take] | rw [walk_run] | rw [again_cons]); intro Z hZ; simp only [sel, List.getElem?_toArray, List.getElem?_cons_zero, List.getElem?_cons_succ]; go_wp2_with (first | (refine wpList_load_va rfl (.tmp 2) rfl w.heap.size rfl h1 ?_) | (refine wpList_load_va rfl (.tmp 3) rfl gb rfl h2 ?_))))
  refine (vnot_any _ b).mono ?_
  rintro e W5 ⟨rfl, hB5⟩
  have h4 := h4.below hB5
  have HB5 := Lib.hid (HB4.out.then hB5)
  clear hB5 HB4 h1 h2
  go_wp2_with fail
  repeat' (first | (refine hZ _ _ ?_; clear hZ) | (refine hZ _ ?_; clear hZ) | (refine hZ ?_; clear hZ) | rw [again_nil] | rw [walk_fin] | ((first | rw [walk_take] | rw [walk_run] | rw [again_cons]); intro Z hZ; simp only [sel, List.getElem?_toArray, List.getElem?_cons_zero, List.getElem?_cons_succ]; go_wp2_with (fail)))
  refine (vand_any _ (Ev.notV a) (Ev.notV b)).mono ?_
  rintro e W6 ⟨rfl, hB6⟩
  have h4 := h4.below hB6
  have HB6 := Lib.hid (HB5.out.then hB6)
  clear hB6 HB5
  go_wp2_with fail
  repeat' (first | (refine hZ _ _ ?_; clear hZ) | (refine hZ _ ?_; clear hZ) | (refine hZ ?_; clear hZ) | rw [again_nil] | rw [walk_fin] | ((first | rw [walk_take] | rw [walk_run] | rw [again_cons]); intro Z hZ; simp only [sel, List.getElem?_toArray, List.getElem?_cons_zero, List.getElem?_cons_succ]; go_wp2_with (fail)))
  refine (vnot_any _ (Ev.andV (Ev.notV a) (Ev.notV b))).mono ?_
  rintro e W7 ⟨rfl, hB7⟩
  have h4 := h4.below hB7
  have HB7 := Lib.hid (HB6.out.then hB7)
  clear hB7 HB6
  have HV : Hid (Ev.orV a b = Ev.notV (Ev.andV (Ev.notV a) (Ev.notV b))) := rfl
  generalize Ev.notV (Ev.andV (Ev.notV a) (Ev.notV b)) = d at HV ⊢
  go_wp2_with fail
  repeat' (first | (refine hZ _ _ ?_; clear hZ) | (refine hZ _ ?_; clear hZ) | (refine hZ ?_; clear hZ) | rw [again_nil] | rw [walk_fin] | ((first | rw [walk_take] | rw [walk_run] | rw [again_cons]); intro Z hZ; simp only [sel, List.getElem?_toArray, List.getElem?_cons_zero, List.getElem?_cons_succ]; go_wp2_with (refine wpList_store_va rfl rfl (.tmp 4) (.tmp 10) rfl g rfl d rfl h4 ?_; intro W8 hb8 hg8)))
  go_wp2_with fail
  exact ret_va hb8 rfl rfl rfl ⟨by rw [HV.out], below_of_grown HB7.out hg8 (by omega) HB7.out.size⟩
end Go.Proofs.YtpahkaffknnjhaaGreatDoor
end

section
namespace Go.Proofs.YtpahkaffknnjhaaGreatDoor
set_option linter.unusedSimpArgs false
set_option linter.unusedVariables false
open Go.RowKit
theorem run_str_is (op m : List UInt8) (h : op ≠ m) (w : World) : (binOp .eql 9 (txt op) (.string ⟨m.toArray⟩)).run Tryz.prog w = .ok (.bool false) w := by
  have := run_str_eq op m w
  have e : (op == m) = false := by simp [h]
  rw [e] at this
  exact this
theorem guard_str_is (t : TypeId) (x y : Operand) (l : List UInt8) (m : ByteArray) : eqGuard .eql t x y (txt l) (.string m) = pure () := rfl
set_option maxRecDepth 20000 in
set_option maxHeartbeats 4000000 in
theorem vcmp_any (w : World) (op : List UInt8) (a b : Va) (ha : a.ok) (hb : b.ok) : Calls Tryz.prog 65 #[txt op, a.v, b.v] w (RetV w (Ev.cmpV op a b)) := by
  have HA := Lib.hid ha
  have HB := Lib.hid hb
  have HXO := Lib.hid (Ev.clean_ok ha)
  have HYO := Lib.hid (Ev.clean_ok hb)
  have hgs := guard_str_is
  clear ha hb
  go_enter Tryz.func65, Tryz.ntmps65
  go_upto_region 1 with (first | (refine wpList_box_va rfl (.tmp 1) rfl a rfl ?_; intro W1 hb1 hz1 hB1) | (refine wpList_box_va rfl (.tmp 2) rfl b rfl ?_; intro W2 hb2 hz2 hB2) | (refine wpList_alloc_va rfl rfl ?_; intro W3 hb3 hz3 hB3))
  have h1 := ((hb1.below hB2).below hB3).drew
  have h2 := (hb2.below hB3).drew
  have h4 := hb3.drew
  have HB3 := Lib.hid ((hB1.then hB2).then hB3).drewR
  have hw1 : w.heap.size < W1.heap.size ∧ W1.heap.size < W2.heap.size := by have := hB1.size; have := hB2.size; omega
  clear hb1 hb2 hb3 hB1 hB2 hB3 hz1 hz2 hz3
  generalize W2.heap.size = g at h4 hw1 ⊢
  generalize W1.heap.size = gb at h2 hw1 ⊢
  refine wp_region_plan (.take 0 (.take 2 (.run 1 [2] (.run 3 [] (.run 4 [] (.run 5 [] .fin)))))) (by kernel_rfl) (by kernel_rfl) (by kernel_rfl) (by kernel_rfl) ?_
  repeat' (first | (refine hZ _ _ ?_; clear hZ) | (refine hZ _ ?_; clear hZ) | (refine hZ ?_; clear hZ) | rw [again_nil] | rw [walk_fin] | ((first | rw [walk_take] | rw [walk_run] | rw [again_cons]); intro Z hZ; simp only [sel, List.getElem?_toArray, List.getElem?_cons_zero, List.getElem?_cons_succ]; go_wp2_with (first | (refine wpList_load_va rfl (.tmp 4) rfl w.heap.size rfl h1 ?_) | (refine wpList_load_va rfl (.tmp 5) rfl gb rfl h2 ?_))))
  refine (clean_any _ a HA.out).mono ?_
  rintro e W4 ⟨rfl, hB4⟩
  have h1 := h1.below hB4
  have h2 := h2.below hB4
  have h4 := h4.below hB4
  have HB4 := Lib.hid (HB3.out.trans (hB4.mono HB3.out.size))
  clear hB4 HB3
  go_wp2_with fail
  repeat' (first | (refine hZ _ _ ?_; clear hZ) | (refine hZ _ ?_; clear hZ) | (refine hZ ?_; clear hZ) | rw [again_nil] | rw [walk_fin] | ((first | rw [walk_take] | rw [walk_run] | rw [again_cons]); intro Z hZ; simp only [sel, List.getElem?_toArray, List.getElem?_cons_zero, List.getElem?_cons_succ]; go_wp2_with (first | (refine wpList_load_va rfl (.tmp 4) rfl w.heap.size rfl h1 ?_) | (refine wpList_load_va rfl (.tmp 5) rfl gb rfl h2 ?_))))
  refine (clean_any _ b HB.out).mono ?_
  rintro e W5 ⟨rfl, hB5⟩
  have h1 := h1.below hB5
  have h2 := h2.below hB5
  have h4 := h4.below hB5
  have HB5 := Lib.hid (HB4.out.then hB5)
  clear hB5 HB4
  generalize hX : Key.clean a = x at HXO ⊢
  generalize hY : Key.clean b = y at HYO ⊢
  have HX := Lib.hid hX
  have HY := Lib.hid hY
  clear hX hY
  go_wp2_with fail
  repeat' (first | (refine hZ _ _ ?_; clear hZ) | (refine hZ _ ?_; clear hZ) | (refine hZ ?_; clear hZ) | rw [again_nil] | rw [walk_fin] | ((first | rw [walk_take] | rw [walk_run] | rw [again_cons]); intro Z hZ; simp only [sel, List.getElem?_toArray, List.getElem?_cons_zero, List.getElem?_cons_succ]; go_wp2_with (first | (refine wpList_store_va rfl rfl (.tmp 4) (.tmp 9) rfl w.heap.size rfl x rfl h1 ?_; intro W6 hb6 hg6; have h26 := h2.grown hg6 (by simp; omega); have h46 := h4.grown hg6 (by simp; omega)) | (refine wpList_store_va rfl rfl (.tmp 5) (.tmp 11) rfl gb rfl y rfl h26 ?_; intro W7 hb7 hg7))))
  have h1 := hb6.grown hg7 (by simp; omega)
  have h4 := h46.grown hg7 (by simp; omega)
  have HB7 := Lib.hid (below_of_grown (below_of_grown HB5.out hg6 (Nat.le_refl _) HB5.out.size) hg7 (by omega) (Nat.le_trans HB5.out.size hg6.size))
  clear hg6 hg7 hb6 h26 h46 HB5
  have HVC : Hid (Ev.cmpV op a b = if x.k = 0 ∨ x.k ≠ y.k then Key.nul else Ev.optB (Ev.sign op (Key.vord x y))) := by
    show _ = _
    unfold Ev.cmpV
    rw [HX.out, HY.out]
  have HCX : Hid (Key.vord (Key.clean x) (Key.clean y) = Key.vord x y) := by show _ = _; rw [← HX.out, ← HY.out, Ev.clean_clean, Ev.clean_clean]
  obtain ⟨c0, -, -, -, -⟩ := Blk.c4 h1
  obtain ⟨d0, -, -, -, -⟩ := Blk.c4 hb7
  by_cases hk : x.k = 0 ∨ x.k ≠ y.k
  · have HV : Hid (Ev.cmpV op a b = Key.nul) := by show _ = _; rw [HVC.out, if_pos hk]
    clear HVC HCX
    by_cases h0 : x.k = 0
    · rw [h0] at c0
      clear hk h0
      go_wp2_with (refine wpList_store_va rfl rfl (.tmp 6) (.tmp 22) rfl g rfl Key.nul rfl h4 ?_; intro Wa hba hga)
      exact ret_va hba rfl rfl rfl ⟨by rw [HV.out], below_of_grown HB7.out hga (by omega) HB7.out.size⟩
    · have hkb : (x.k != y.k) = true := by simpa using hk.resolve_left h0
      have h0b : (x.k == 0) = false := by simp [h0]
      clear hk h0
      go_wp2_with (refine wpList_store_va rfl rfl (.tmp 6) (.tmp 22) rfl g rfl Key.nul rfl h4 ?_; intro Wa hba hga)
      exact ret_va hba rfl rfl rfl ⟨by rw [HV.out], below_of_grown HB7.out hga (by omega) HB7.out.size⟩
  · have HVV : Hid (Ev.cmpV op a b = Ev.optB (Ev.sign op (Key.vord x y))) := by show _ = _; rw [HVC.out, if_neg hk]
    have hkb : (x.k != y.k) = false := by simp; by_cases e : x.k = y.k; exact e; exact absurd (.inr e) hk
    have h0b : (x.k == 0) = false := by simp; exact fun e => hk (.inl e)
    clear hk HVC
    go_upto_region 4 with fail
    clear c0 d0 hkb h0b
    go_wp2_with (first | (refine wpList_load_va rfl (.tmp 4) rfl w.heap.size rfl h1 ?_) | (refine wpList_load_va rfl (.tmp 5) rfl gb rfl hb7 ?_))
    refine (pord_any _ x y HXO.out HYO.out).mono ?_
    rintro e W8 ⟨rfl, hB8⟩
    have h4 := h4.below hB8
    have HB8 := Lib.hid (HB7.out.then hB8)
    clear hB8 HB7 h1 hb7
    rw [HCX.out]
    generalize Key.vord x y = c at HVV ⊢
    clear HCX HX HY HXO HYO
    go_upto_region 5 with fail
    by_cases hop : op = [61]
    · subst hop
      have HV : Hid (Ev.cmpV [61] a b = Ev.boolV (c == 0)) := by show _ = _; rw [HVV.out]; rfl
      unfold txt
      go_wp2_with fail
      refine (ofbool_any _ _).mono ?_
      rintro e W9 ⟨rfl, hB9⟩
      have h4 := h4.below hB9
      have HB9 := Lib.hid (HB8.out.then hB9)
      clear hB9 HB8
      rw [boolV_v]
      generalize Ev.boolV _ = d at HV ⊢
      go_wp2_with (refine wpList_store_va rfl rfl (.tmp 6) (.tmp 31) rfl g rfl d rfl h4 ?_; intro Wa hba hga)
      exact ret_va hba rfl rfl rfl ⟨by rw [HV.out], below_of_grown HB9.out hga (by omega) HB9.out.size⟩
    have n1 := run_str_is op [61] hop
    by_cases hop2 : op = [60, 62]
    · subst hop2
      have HV : Hid (Ev.cmpV [60, 62] a b = Ev.boolV (c != 0)) := by show _ = _; rw [HVV.out]; rfl
      unfold txt
      clear n1
      go_wp2_with fail
      refine (ofbool_any _ _).mono ?_
      rintro e W9 ⟨rfl, hB9⟩
      have h4 := h4.below hB9
      have HB9 := Lib.hid (HB8.out.then hB9)
      clear hB9 HB8
      rw [boolV_v]
      generalize Ev.boolV _ = d at HV ⊢
      go_wp2_with (refine wpList_store_va rfl rfl (.tmp 6) (.tmp 36) rfl g rfl d rfl h4 ?_; intro Wa hba hga)
      exact ret_va hba rfl rfl rfl ⟨by rw [HV.out], below_of_grown HB9.out hga (by omega) HB9.out.size⟩
    have n2 := run_str_is op [60, 62] hop2
    by_cases hop3 : op = [60]
    · subst hop3
      have HV : Hid (Ev.cmpV [60] a b = Ev.boolV (decide (c < 0))) := by show _ = _; rw [HVV.out]; rfl
      unfold txt
      clear n1 n2
      go_wp2_with fail
      refine (ofbool_any _ _).mono ?_
      rintro e W9 ⟨rfl, hB9⟩
      have h4 := h4.below hB9
      have HB9 := Lib.hid (HB8.out.then hB9)
      clear hB9 HB8
      rw [boolV_v]
      generalize Ev.boolV _ = d at HV ⊢
      go_wp2_with (refine wpList_store_va rfl rfl (.tmp 6) (.tmp 41) rfl g rfl d rfl h4 ?_; intro Wa hba hga)
      exact ret_va hba rfl rfl rfl ⟨by rw [HV.out], below_of_grown HB9.out hga (by omega) HB9.out.size⟩
    have n3 := run_str_is op [60] hop3
    by_cases hop4 : op = [60, 61]
    · subst hop4
      have HV : Hid (Ev.cmpV [60, 61] a b = Ev.boolV (decide (c ≤ 0))) := by show _ = _; rw [HVV.out]; rfl
      unfold txt
      clear n1 n2 n3
      go_wp2_with fail
      refine (ofbool_any _ _).mono ?_
      rintro e W9 ⟨rfl, hB9⟩
      have h4 := h4.below hB9
      have HB9 := Lib.hid (HB8.out.then hB9)
      clear hB9 HB8
      rw [boolV_v]
      generalize Ev.boolV _ = d at HV ⊢
      go_wp2_with (refine wpList_store_va rfl rfl (.tmp 6) (.tmp 46) rfl g rfl d rfl h4 ?_; intro Wa hba hga)
      exact ret_va hba rfl rfl rfl ⟨by rw [HV.out], below_of_grown HB9.out hga (by omega) HB9.out.size⟩
    have n4 := run_str_is op [60, 61] hop4
    by_cases hop5 : op = [62]
    · subst hop5
      have HV : Hid (Ev.cmpV [62] a b = Ev.boolV (decide (0 < c))) := by show _ = _; rw [HVV.out]; rfl
      unfold txt
      clear n1 n2 n3 n4
      go_wp2_with fail
      refine (ofbool_any _ _).mono ?_
      rintro e W9 ⟨rfl, hB9⟩
      have h4 := h4.below hB9
      have HB9 := Lib.hid (HB8.out.then hB9)
      clear hB9 HB8
      rw [boolV_v]
      generalize Ev.boolV _ = d at HV ⊢
      go_wp2_with (refine wpList_store_va rfl rfl (.tmp 6) (.tmp 51) rfl g rfl d rfl h4 ?_; intro Wa hba hga)
      exact ret_va hba rfl rfl rfl ⟨by rw [HV.out], below_of_grown HB9.out hga (by omega) HB9.out.size⟩
    have n5 := run_str_is op [62] hop5
    by_cases hop6 : op = [62, 61]
    · subst hop6
      have HV : Hid (Ev.cmpV [62, 61] a b = Ev.boolV (decide (0 ≤ c))) := by show _ = _; rw [HVV.out]; rfl
      unfold txt
      clear n1 n2 n3 n4 n5
      go_wp2_with fail
      refine (ofbool_any _ _).mono ?_
      rintro e W9 ⟨rfl, hB9⟩
      have h4 := h4.below hB9
      have HB9 := Lib.hid (HB8.out.then hB9)
      clear hB9 HB8
      rw [boolV_v]
      generalize Ev.boolV _ = d at HV ⊢
      go_wp2_with (refine wpList_store_va rfl rfl (.tmp 6) (.tmp 56) rfl g rfl d rfl h4 ?_; intro Wa hba hga)
      exact ret_va hba rfl rfl rfl ⟨by rw [HV.out], below_of_grown HB9.out hga (by omega) HB9.out.size⟩
    have n6 := run_str_is op [62, 61] hop6
    have HV : Hid (Ev.cmpV op a b = Key.nul) := by
      show _ = _
      rw [HVV.out]
      unfold Ev.sign
      rw [if_neg hop, if_neg hop2, if_neg hop3, if_neg hop4, if_neg hop5, if_neg hop6]
      rfl
    clear hop hop2 hop3 hop4 hop5 hop6 HVV
    go_wp2_with (refine wpList_store_va rfl rfl (.tmp 6) (.tmp 57) rfl g rfl Key.nul rfl h4 ?_; intro Wa hba hga)
    exact ret_va hba rfl rfl rfl ⟨by rw [HV.out], below_of_grown HB8.out hga (by omega) HB8.out.size⟩
end Go.Proofs.YtpahkaffknnjhaaGreatDoor
end

section
namespace Go.Proofs.YtpahkaffknnjhaaGreatDoor
set_option linter.unusedSimpArgs false
set_option linter.unusedVariables false
open Go.RowKit
namespace Key
end Key
end Go.Proofs.YtpahkaffknnjhaaGreatDoor
end

section
namespace Go.Proofs.YtpahkaffknnjhaaGreatDoor
set_option linter.unusedSimpArgs false
set_option linter.unusedVariables false
open Go.RowKit
def Key.kback (n : Nat) : Nat := if 9223372036854775808 ≤ n then n % 9223372036854775808 else 18446744073709551615 - n
end Go.Proofs.YtpahkaffknnjhaaGreatDoor
end

section
namespace Go.Proofs.YtpahkaffknnjhaaGreatDoor
set_option linter.unusedSimpArgs false
set_option linter.unusedVariables false
open Go.RowKit
namespace Key
def realV (n : Nat) : Va := ⟨2, 0, if n = 18446744073709551615 then 9221120237041090561 else real1 (kback n), []⟩
end Key
end Go.Proofs.YtpahkaffknnjhaaGreatDoor
end

section
namespace Go.Proofs.YtpahkaffknnjhaaGreatDoor
set_option linter.unusedSimpArgs false
set_option linter.unusedVariables false
open Go.RowKit
namespace Key
end Key
end Go.Proofs.YtpahkaffknnjhaaGreatDoor
end

section
namespace Go.Proofs.YtpahkaffknnjhaaGreatDoor
set_option linter.unusedSimpArgs false
set_option linter.unusedVariables false
open Go.RowKit
set_option maxRecDepth 20000 in
set_option maxHeartbeats 1000000 in
theorem refbits_any (w : World) (f : Nat) (hf : f < two64) : Calls Tryz.prog 69 #[.float .f64 f] w fun e w' => e = .returned (.int .u64 (Key.pbits f : Nat)) ∧ w = w' := by
  have HF := Lib.hid hf
  have HS := Lib.hid (ford_self hf)
  have hx : (Extern.MathFloatBits.float64bits #[.float .f64 f]).run Tryz.prog w = .ok (.int .u64 (f : Int)) w := rfl
  have hun := not_u64 (show f < 18446744073709551616 from hf)
  have HX := Lib.hid hx
  have HUN := Lib.hid hun
  clear hf hx hun
  by_cases hn : fnan f
  · have HP : Hid (Key.pbits f = 18446744073709551615) := by show _ = _; unfold Key.pbits; rw [if_pos hn]
    have ho : (FloatKind.f64.format.order f f != some Ordering.eq) = true := HS.out.trans (decide_eq_true hn)
    clear hn
    go_enter Tryz.func69, Tryz.ntmps69
    go_wp2_with fail
    go_ret
    exact ⟨by rw [HP.out]; rfl, rfl⟩
  · have HP : Hid (Key.pbits f = Key.kbits f) := by show _ = _; unfold Key.pbits; rw [if_neg hn]
    have ho : (FloatKind.f64.format.order f f != some Ordering.eq) = false := HS.out.trans (decide_eq_false hn)
    clear hn
    go_enter Tryz.func69, Tryz.ntmps69
    go_wp2_with fail
    rw [run_callFunc_extern Tryz.func100 (by kernel_rfl) (by kernel_rfl) (by kernel_rfl) (e := Extern.MathFloatBits.float64bits) (by kernel_rfl), HX.out]
    simp only [Result.andThen]
    rw [Oper.upon_value]
    have hl : f < 18446744073709551616 := HF.out
    by_cases ht : 9223372036854775808 ≤ f
    · have hi : (9223372036854775808 : Int) ≤ (f : Int) := by omega
      have HK : Hid (Key.kbits f = 18446744073709551615 - f) := by show _ = _; unfold Key.kbits; rw [if_pos ht]
      have HW : Hid (IntKind.u64.wrap (18446744073709551615 - (f : Int)) = ((18446744073709551615 - f : Nat) : Int)) := by show _ = _; rw [IntWalk.u64_in _ (by omega)]; omega
      clear ht hl
      go_wp2_with fail
      go_ret
      exact ⟨by rw [HP.out, HK.out, ← HW.out]; rfl, rfl⟩
    · have hi : ¬ (9223372036854775808 : Int) ≤ (f : Int) := by omega
      have HK : Hid (Key.kbits f = f + 9223372036854775808) := by show _ = _; unfold Key.kbits; rw [if_neg ht]
      have HW : Hid (IntKind.u64.wrap ((f : Int) + 9223372036854775808) = ((f + 9223372036854775808 : Nat) : Int)) := by show _ = _; rw [IntWalk.u64_in _ (by omega)]; omega
      clear ht hl
      go_wp2_with fail
      go_ret
      have HE : Hid ((f : Int) + 9223372036854775808 = ((f + 9223372036854775808 : Nat) : Int)) := rfl
      exact ⟨by rw [HP.out, HK.out, ← HE.out]; rfl, rfl⟩
set_option maxRecDepth 20000 in
set_option maxHeartbeats 1000000 in
theorem refbool_any (w : World) (x : Bool) : Calls Tryz.prog 53 #[.bool x] w (RetV w ⟨4, if x then 1 else 0, 0, []⟩) := by
  cases x
  · go_enter Tryz.func53, Tryz.ntmps53
    go_wp2_with (first | (refine wpList_alloc_va rfl rfl ?_; intro W1 hb1 hz1 hB1) | (refine wpList_store_va rfl rfl (.tmp 2) (.tmp 5) rfl w.heap.size rfl ⟨4, 0, 0, []⟩ rfl hb1 ?_; intro W4 hb4 hg4))
    exact ret_va hb4 rfl rfl rfl ⟨rfl, below_of_grown hB1 hg4 (Nat.le_refl _) (by omega)⟩
  · go_enter Tryz.func53, Tryz.ntmps53
    go_wp2_with (first | (refine wpList_alloc_va rfl rfl ?_; intro W1 hb1 hz1 hB1) | (refine wpList_store_va rfl rfl (.tmp 2) (.tmp 4) rfl w.heap.size rfl ⟨4, 1, 0, []⟩ rfl hb1 ?_; intro W4 hb4 hg4))
    exact ret_va hb4 rfl rfl rfl ⟨rfl, below_of_grown hB1 hg4 (Nat.le_refl _) (by omega)⟩
theorem real0_lt {f : Nat} (h : f < two64) : Key.real0 f < two64 := by
  unfold Key.real0 two64 at *
  split <;> omega
end Go.Proofs.YtpahkaffknnjhaaGreatDoor
end

section
namespace Go.Proofs.YtpahkaffknnjhaaGreatDoor
set_option linter.unusedSimpArgs false
set_option linter.unusedVariables false
open Go.RowKit
namespace Ev
def tru3 (v : Va) : Int := if v.k ≠ 4 then 1 else if v.n = 0 then 0 else 2
def of3 (t : Int) : Va := if t = 1 then Key.nul else boolV (t == 2)
theorem tru3_range (v : Va) : tru3 v = 0 ∨ tru3 v = 1 ∨ tru3 v = 2 := by unfold tru3; (repeat' split) <;> simp
theorem and3 (a b : Va) : of3 (min (tru3 a) (tru3 b)) = andV a b := by
  unfold andV tru tru3
  (repeat' split) <;> first | rfl | omega | simp_all
theorem not3 (a : Va) : of3 (2 - tru3 a) = notV a := by
  unfold notV tru tru3
  (repeat' split) <;> first | rfl | omega | simp_all
theorem or3 (a b : Va) : of3 (max (tru3 a) (tru3 b)) = orV a b := by
  unfold orV
  rw [← and3, ← not3, ← not3 a, ← not3 b]
  rcases tru3_range a with ha | ha | ha <;> rcases tru3_range b with hb | hb | hb <;> rw [ha, hb] <;> rfl
end Ev
set_option maxRecDepth 20000 in
theorem rtruth_any (w : World) (v : Va) : Calls Tryz.prog 29 #[v.v] w fun e w' => e = .returned (.int .i64 (Ev.tru3 v)) ∧ Below w.heap.size w w' := by
  by_cases h4 : v.k = 4
  · by_cases hn : v.n = 0
    · have HV : Hid (Ev.tru3 v = 0) := by show _ = _; unfold Ev.tru3; simp [h4, hn]
      go_enter Tryz.func29, Tryz.ntmps29
      go_upto_region 1 with (refine wpList_box_va rfl (.tmp 0) rfl v rfl ?_; intro W1 hb1 hz1 hB1)
      obtain ⟨c0, c1, -⟩ := Blk.c4 hb1
      rw [h4] at c0
      rw [hn] at c1
      clear h4 hn hb1 hz1
      go_wp2_with fail
      go_ret
      exact ⟨by rw [HV.out]; rfl, hB1⟩
    · have HV : Hid (Ev.tru3 v = 2) := by show _ = _; unfold Ev.tru3; simp [h4, hn]
      go_enter Tryz.func29, Tryz.ntmps29
      go_upto_region 1 with (refine wpList_box_va rfl (.tmp 0) rfl v rfl ?_; intro W1 hb1 hz1 hB1)
      obtain ⟨c0, c1, -⟩ := Blk.c4 hb1
      rw [h4] at c0
      have hnb : (v.n == 0) = false := by simp [hn]
      clear h4 hn hb1 hz1
      go_wp2_with fail
      go_ret
      exact ⟨by rw [HV.out]; rfl, hB1⟩
  · have HV : Hid (Ev.tru3 v = 1) := by show _ = _; unfold Ev.tru3; simp [h4]
    go_enter Tryz.func29, Tryz.ntmps29
    go_upto_region 1 with (refine wpList_box_va rfl (.tmp 0) rfl v rfl ?_; intro W1 hb1 hz1 hB1)
    obtain ⟨c0, c1, -⟩ := Blk.c4 hb1
    have hkb : (v.k != 4) = true := by simp [h4]
    clear h4 hb1 hz1
    go_wp2_with fail
    go_ret
    exact ⟨by rw [HV.out]; rfl, hB1⟩
set_option maxRecDepth 20000 in
theorem rof_any (w : World) (t : Int) : Calls Tryz.prog 93 #[.int .i64 t] w (RetV w (Ev.of3 t)) := by
  by_cases h : t = 1
  · have HV : Hid (Ev.of3 t = Key.nul) := by show _ = _; unfold Ev.of3; rw [if_pos h]
    subst h
    go_enter Tryz.func93, Tryz.ntmps93
    go_wp2_with (first | (refine wpList_alloc_va rfl rfl ?_; intro W1 hb1 hz1 hB1) | (refine wpList_store_va rfl rfl (.tmp 2) (.tmp 5) rfl w.heap.size rfl Key.nul rfl hb1 ?_; intro W2 hb2 hg2))
    exact ret_va hb2 rfl rfl rfl ⟨by rw [HV.out], below_of_grown hB1 hg2 (Nat.le_refl _) (by omega)⟩
  · have HV : Hid (Ev.of3 t = Ev.boolV (t == 2)) := by show _ = _; unfold Ev.of3; rw [if_neg h]
    have hb : (t == 1) = false := by simp [h]
    clear h
    go_enter Tryz.func93, Tryz.ntmps93
    go_wp2_with (first | (refine wpList_alloc_va rfl rfl ?_; intro W1 hb1 hz1 hB1))
    refine (refbool_any _ (t == 2)).mono ?_
    rintro e W2 ⟨rfl, hB2⟩
    rw [boolV_v]
    have hb2 := hb1.below hB2
    have HB2 := Lib.hid (hB1.then hB2)
    clear hb1 hB1 hB2 hz1
    generalize Ev.boolV (t == 2) = d at HV ⊢
    go_wp2_with (refine wpList_store_va rfl rfl (.tmp 2) (.tmp 8) rfl w.heap.size rfl d rfl hb2 ?_; intro W3 hb3 hg3)
    exact ret_va hb3 rfl rfl rfl ⟨by rw [HV.out], below_of_grown HB2.out hg3 (Nat.le_refl _) HB2.out.size⟩
set_option maxRecDepth 20000 in
theorem rnot_any (w : World) (v : Va) : Calls Tryz.prog 48 #[v.v] w (RetV w (Ev.notV v)) := by
  go_enter Tryz.func48, Tryz.ntmps48
  go_upto_region 1 with (first | (refine wpList_box_va rfl (.tmp 0) rfl v rfl ?_; intro W1 hb1 hz1 hB1) | (refine wpList_alloc_va rfl rfl ?_; intro W2 hb2 hz2 hB2))
  have h12 := hb1.below hB2
  have HB2 := Lib.hid (hB1.then hB2)
  clear hb1 hB1 hB2 hz2
  generalize W1.heap.size = g at hb2 hz1 ⊢
  go_wp2_with (refine wpList_load_va rfl (.tmp 1) rfl w.heap.size rfl h12 ?_)
  refine (rtruth_any _ v).mono ?_
  rintro e W3 ⟨rfl, hB3⟩
  have HB2 := Lib.hid (HB2.out.then hB3)
  have hb2 := hb2.below hB3
  clear hB3 h12
  have hr : 0 ≤ Ev.tru3 v ∧ Ev.tru3 v ≤ 2 := by unfold Ev.tru3; (repeat' split) <;> omega
  have HVV := Lib.hid (Ev.not3 v)
  generalize Ev.tru3 v = t at hr HVV ⊢
  go_wp2_with fail
  refine (rof_any _ (2 - t)).mono ?_
  rintro e W4 ⟨rfl, hB4⟩
  rw [HVV.out]
  have hb2 := hb2.below hB4
  have HB4 := Lib.hid (HB2.out.then hB4)
  clear hB4
  generalize hd : Ev.notV v = d
  have HD := Lib.hid hd
  clear hd
  go_wp2_with (refine wpList_store_va rfl rfl (.tmp 2) (.tmp 6) rfl g rfl d rfl hb2 ?_; intro W5 hb5 hg5)
  exact ret_va hb5 rfl rfl rfl ⟨by rw [HD.out], below_of_grown HB4.out hg5 (by omega) HB4.out.size⟩
set_option maxRecDepth 20000 in
set_option maxHeartbeats 2000000 in
theorem rand_any (w : World) (a b : Va) : Calls Tryz.prog 49 #[a.v, b.v] w (RetV w (Ev.andV a b)) := by
  go_enter Tryz.func49, Tryz.ntmps49
  go_upto_region 1 with (first | (refine wpList_box_va rfl (.tmp 0) rfl a rfl ?_; intro W1 hb1 hz1 hB1) | (refine wpList_box_va rfl (.tmp 1) rfl b rfl ?_; intro W2 hb2 hz2 hB2) | (refine wpList_alloc_va rfl rfl ?_; intro W3 hb3 hz3 hB3))
  have h1 := ((hb1.below hB2).below hB3).drew
  have h2 := (hb2.below hB3).drew
  have h4 := hb3.drew
  have HB3 := Lib.hid ((hB1.then hB2).then hB3).drewR
  have hw1 : w.heap.size ≤ W2.heap.size := by have := hB1.size; have := hB2.size; omega
  clear hb1 hb2 hb3 hB1 hB2 hB3 hz2 hz3
  generalize W2.heap.size = g at h4 hw1 ⊢
  generalize W1.heap.size = gb at h2 ⊢
  refine wp_region_plan (.take 0 (.take 2 (.run 1 [2] (.run 3 [] (.take 4 (.run 5 [] (.run 6 [] .fin))))))) (by kernel_rfl) (by kernel_rfl) (by kernel_rfl) (by kernel_rfl) ?_
  repeat' (first | (refine hZ _ _ ?_; clear hZ) | (refine hZ _ ?_; clear hZ) | (refine hZ ?_; clear hZ) | rw [again_nil] | rw [walk_fin] | ((first | rw [walk_take] | rw [walk_run] | rw [again_cons]); intro Z hZ; simp only [sel, List.getElem?_toArray, List.getElem?_cons_zero, List.getElem?_cons_succ]; go_wp2_with (first | (refine wpList_load_va rfl (.tmp 2) rfl w.heap.size rfl h1 ?_) | (refine wpList_load_va rfl (.tmp 3) rfl gb rfl h2 ?_))))
  refine (rtruth_any _ a).mono ?_
  rintro e W4 ⟨rfl, hB4⟩
  have h1 := h1.below hB4
  have h2 := h2.below hB4
  have h4 := h4.below hB4
  have HB4 := Lib.hid (HB3.out.trans (hB4.mono HB3.out.size))
  clear hB4 HB3
  go_wp2_with fail
  repeat' (first | (refine hZ _ _ ?_; clear hZ) | (refine hZ _ ?_; clear hZ) | (refine hZ ?_; clear hZ) | rw [again_nil] | rw [walk_fin] | ((first | rw [walk_take] | rw [walk_run] | rw [again_cons]); intro Z hZ; simp only [sel, List.getElem?_toArray, List.getElem?_cons_zero, List.getElem?_cons_succ]; go_wp2_with (first | (refine wpList_load_va rfl (.tmp 2) rfl w.heap.size rfl h1 ?_) | (refine wpList_load_va rfl (.tmp 3) rfl gb rfl h2 ?_))))
  refine (rtruth_any _ b).mono ?_
  rintro e W5 ⟨rfl, hB5⟩
  have h4 := h4.below hB5
  have HB5 := Lib.hid (HB4.out.then hB5)
  clear hB5 HB4 h1 h2
  have HV := Lib.hid (Ev.and3 a b)
  have hra := Ev.tru3_range a
  have hrb := Ev.tru3_range b
  generalize Ev.tru3 a = x at HV hra ⊢
  generalize Ev.tru3 b = y at HV hrb ⊢
  rcases hra with rfl | rfl | rfl <;> rcases hrb with rfl | rfl | rfl
  all_goals
    have HV := HV.out
    simp only [Int.min_def, Int.reduceLE, if_true, if_false] at HV
    have HV := Lib.hid HV
    go_wp2_with fail
    repeat' (first | (refine hZ _ _ ?_; clear hZ) | (refine hZ _ ?_; clear hZ) | (refine hZ ?_; clear hZ) | rw [again_nil] | rw [walk_fin] | ((first | rw [walk_take] | rw [walk_run] | rw [again_cons]); intro Z hZ; simp only [sel, List.getElem?_toArray, List.getElem?_cons_zero, List.getElem?_cons_succ]; go_wp2_with (fail)))
    refine (rof_any _ _).mono ?_
    rintro e W6 ⟨rfl, hB6⟩
    rw [HV.out]
    have h4 := h4.below hB6
    have HB6 := Lib.hid (HB5.out.then hB6)
    clear hB6 HB5 HV
    generalize hd : Ev.andV a b = d
    have HD := Lib.hid hd
    clear hd
    go_wp2_with fail
    repeat' (first | (refine hZ _ _ ?_; clear hZ) | (refine hZ _ ?_; clear hZ) | (refine hZ ?_; clear hZ) | rw [again_nil] | rw [walk_fin] | ((first | rw [walk_take] | rw [walk_run] | rw [again_cons]); intro Z hZ; simp only [sel, List.getElem?_toArray, List.getElem?_cons_zero, List.getElem?_cons_succ]; go_wp2_with (refine wpList_store_va rfl rfl (.tmp 4) (.tmp 10) rfl g rfl d rfl h4 ?_; intro W7 hb7 hg7)))
    go_wp2_with fail
    exact ret_va hb7 rfl rfl rfl ⟨by rw [HD.out], below_of_grown HB6.out hg7 (by omega) HB6.out.size⟩
set_option maxRecDepth 20000 in
set_option maxHeartbeats 2000000 in
theorem ror_any (w : World) (a b : Va) : Calls Tryz.prog 50 #[a.v, b.v] w (RetV w (Ev.orV a b)) := by
  go_enter Tryz.func50, Tryz.ntmps50
  go_upto_region 1 with (first | (refine wpList_box_va rfl (.tmp 0) rfl a rfl ?_; intro W1 hb1 hz1 hB1) | (refine wpList_box_va rfl (.tmp 1) rfl b rfl ?_; intro W2 hb2 hz2 hB2) | (refine wpList_alloc_va rfl rfl ?_; intro W3 hb3 hz3 hB3))
  have h1 := ((hb1.below hB2).below hB3).drew
  have h2 := (hb2.below hB3).drew
  have h4 := hb3.drew
  have HB3 := Lib.hid ((hB1.then hB2).then hB3).drewR
  have hw1 : w.heap.size ≤ W2.heap.size := by have := hB1.size; have := hB2.size; omega
  clear hb1 hb2 hb3 hB1 hB2 hB3 hz2 hz3
  generalize W2.heap.size = g at h4 hw1 ⊢
  generalize W1.heap.size = gb at h2 ⊢
  refine wp_region_plan (.take 0 (.take 2 (.run 1 [2] (.run 3 [] (.take 4 (.run 5 [] (.run 6 [] .fin))))))) (by kernel_rfl) (by kernel_rfl) (by kernel_rfl) (by kernel_rfl) ?_
  repeat' (first | (refine hZ _ _ ?_; clear hZ) | (refine hZ _ ?_; clear hZ) | (refine hZ ?_; clear hZ) | rw [again_nil] | rw [walk_fin] | ((first | rw [walk_take] | rw [walk_run] | rw [again_cons]); intro Z hZ; simp only [sel, List.getElem?_toArray, List.getElem?_cons_zero, List.getElem?_cons_succ]; go_wp2_with (first | (refine wpList_load_va rfl (.tmp 2) rfl w.heap.size rfl h1 ?_) | (refine wpList_load_va rfl (.tmp 3) rfl gb rfl h2 ?_))))
  refine (rtruth_any _ a).mono ?_
  rintro e W4 ⟨rfl, hB4⟩
  have h1 := h1.below hB4
  have h2 := h2.below hB4
  have h4 := h4.below hB4
  have HB4 := Lib.hid (HB3.out.trans (hB4.mono HB3.out.size))
  clear hB4 HB3
  go_wp2_with fail
  repeat' (first | (refine hZ _ _ ?_; clear hZ) | (refine hZ _ ?_; clear hZ) | (refine hZ ?_; clear hZ) | rw [again_nil] | rw [walk_fin] | ((first | rw [walk_take] | rw [walk_run] | rw [again_cons]); intro Z hZ; simp only [sel, List.getElem?_toArray, List.getElem?_cons_zero, List.getElem?_cons_succ]; go_wp2_with (first | (refine wpList_load_va rfl (.tmp 2) rfl w.heap.size rfl h1 ?_) | (refine wpList_load_va rfl (.tmp 3) rfl gb rfl h2 ?_))))
  refine (rtruth_any _ b).mono ?_
  rintro e W5 ⟨rfl, hB5⟩
  have h4 := h4.below hB5
  have HB5 := Lib.hid (HB4.out.then hB5)
  clear hB5 HB4 h1 h2
  have HV := Lib.hid (Ev.or3 a b)
  have hra := Ev.tru3_range a
  have hrb := Ev.tru3_range b
  generalize Ev.tru3 a = x at HV hra ⊢
  generalize Ev.tru3 b = y at HV hrb ⊢
  rcases hra with rfl | rfl | rfl <;> rcases hrb with rfl | rfl | rfl
  all_goals
    have HV := HV.out
    simp only [Int.max_def, Int.reduceLE, if_true, if_false] at HV
    have HV := Lib.hid HV
    go_wp2_with fail
    repeat' (first | (refine hZ _ _ ?_; clear hZ) | (refine hZ _ ?_; clear hZ) | (refine hZ ?_; clear hZ) | rw [again_nil] | rw [walk_fin] | ((first | rw [walk_take] | rw [walk_run] | rw [again_cons]); intro Z hZ; simp only [sel, List.getElem?_toArray, List.getElem?_cons_zero, List.getElem?_cons_succ]; go_wp2_with (fail)))
    refine (rof_any _ _).mono ?_
    rintro e W6 ⟨rfl, hB6⟩
    rw [HV.out]
    have h4 := h4.below hB6
    have HB6 := Lib.hid (HB5.out.then hB6)
    clear hB6 HB5 HV
    generalize hd : Ev.orV a b = d
    have HD := Lib.hid hd
    clear hd
    go_wp2_with fail
    repeat' (first | (refine hZ _ _ ?_; clear hZ) | (refine hZ _ ?_; clear hZ) | (refine hZ ?_; clear hZ) | rw [again_nil] | rw [walk_fin] | ((first | rw [walk_take] | rw [walk_run] | rw [again_cons]); intro Z hZ; simp only [sel, List.getElem?_toArray, List.getElem?_cons_zero, List.getElem?_cons_succ]; go_wp2_with (refine wpList_store_va rfl rfl (.tmp 4) (.tmp 10) rfl g rfl d rfl h4 ?_; intro W7 hb7 hg7)))
    go_wp2_with fail
    exact ret_va hb7 rfl rfl rfl ⟨by rw [HD.out], below_of_grown HB6.out hg7 (by omega) HB6.out.size⟩
end Go.Proofs.YtpahkaffknnjhaaGreatDoor
end

section
namespace Go.Proofs.YtpahkaffknnjhaaGreatDoor
set_option linter.unusedSimpArgs false
set_option linter.unusedVariables false
open Go.RowKit
theorem Key.vord_range (a b : Va) : Key.vord a b = -1 ∨ Key.vord a b = 0 ∨ Key.vord a b = 1 := by unfold Key.vord; (repeat' split) <;> simp
theorem c3of {w : World} {g : Nat} {t : TypeId} {a b c : Value} (h : Blk w g t [a, b, c]) : w.cell? ⟨g, 0, none⟩ = some a ∧ w.cell? ⟨g, 1, none⟩ = some b ∧ w.cell? ⟨g, 2, none⟩ = some c ∧ w.frozen? ⟨g, 0, none⟩ = false ∧ w.frozen? ⟨g, 1, none⟩ = false ∧ w.frozen? ⟨g, 2, none⟩ = false ∧ g < w.heap.size :=
  ⟨h.cell 0, h.cell 1, h.cell 2, h.free 0, h.free 1, h.free 2, h.lt⟩
set_option maxRecDepth 100000 in
set_option maxHeartbeats 8000000 in
theorem rcmp_any (w : World) (op : List UInt8) (a b : Va) (ha : a.ok) (hb : b.ok) : Calls Tryz.prog 51 #[txt op, a.v, b.v] w (RetV w (Ev.cmpV op a b)) := by
  have HA := Lib.hid ha
  have HB := Lib.hid hb
  have HXO := Lib.hid (Key.dclean_ok ha)
  have HYO := Lib.hid (Key.dclean_ok hb)
  have hgs := guard_str_is
  clear ha hb
  go_enter Tryz.func51, Tryz.ntmps51
  go_upto_region 1 with (first | (refine wpList_box_va rfl (.tmp 1) rfl a rfl ?_; intro W1 hb1 hz1 hB1) | (refine wpList_box_va rfl (.tmp 2) rfl b rfl ?_; intro W2 hb2 hz2 hB2) | (refine wpList_alloc_va rfl rfl ?_; intro W3 hb3 hz3 hB3))
  have h1 := ((hb1.below hB2).below hB3).drew
  have h2 := (hb2.below hB3).drew
  have h4 := hb3.drew
  have HB3 := Lib.hid ((hB1.then hB2).then hB3).drewR
  have hw1 : w.heap.size < W1.heap.size ∧ W1.heap.size < W2.heap.size := by have := hB1.size; have := hB2.size; omega
  clear hb1 hb2 hb3 hB1 hB2 hB3 hz1 hz2 hz3
  generalize W2.heap.size = g at h4 hw1 ⊢
  generalize W1.heap.size = gb at h2 hw1 ⊢
  refine wp_region_plan (.take 0 (.take 2 (.run 1 [2] (.run 3 [] (.run 4 [] (.run 5 [] .fin)))))) (by kernel_rfl) (by kernel_rfl) (by kernel_rfl) (by kernel_rfl) ?_
  repeat' (first | (refine hZ _ _ ?_; clear hZ) | (refine hZ _ ?_; clear hZ) | (refine hZ ?_; clear hZ) | rw [again_nil] | rw [walk_fin] | ((first | rw [walk_take] | rw [walk_run] | rw [again_cons]); intro Z hZ; simp only [sel, List.getElem?_toArray, List.getElem?_cons_zero, List.getElem?_cons_succ]; go_wp2_with (first | (refine wpList_load_va rfl (.tmp 4) rfl w.heap.size rfl h1 ?_) | (refine wpList_load_va rfl (.tmp 5) rfl gb rfl h2 ?_))))
  refine (dclean_any _ a HA.out).mono ?_
  rintro e W4 ⟨rfl, hB4⟩
  have h1 := h1.below hB4
  have h2 := h2.below hB4
  have h4 := h4.below hB4
  have HB4 := Lib.hid (HB3.out.trans (hB4.mono HB3.out.size))
  clear hB4 HB3
  go_wp2_with fail
  repeat' (first | (refine hZ _ _ ?_; clear hZ) | (refine hZ _ ?_; clear hZ) | (refine hZ ?_; clear hZ) | rw [again_nil] | rw [walk_fin] | ((first | rw [walk_take] | rw [walk_run] | rw [again_cons]); intro Z hZ; simp only [sel, List.getElem?_toArray, List.getElem?_cons_zero, List.getElem?_cons_succ]; go_wp2_with (first | (refine wpList_load_va rfl (.tmp 4) rfl w.heap.size rfl h1 ?_) | (refine wpList_load_va rfl (.tmp 5) rfl gb rfl h2 ?_))))
  refine (dclean_any _ b HB.out).mono ?_
  rintro e W5 ⟨rfl, hB5⟩
  have h1 := h1.below hB5
  have h2 := h2.below hB5
  have h4 := h4.below hB5
  have HB5 := Lib.hid (HB4.out.then hB5)
  clear hB5 HB4
  generalize hX : Key.dclean a = x at HXO ⊢
  generalize hY : Key.dclean b = y at HYO ⊢
  have HX := Lib.hid hX
  have HY := Lib.hid hY
  clear hX hY
  go_wp2_with fail
  repeat' (first | (refine hZ _ _ ?_; clear hZ) | (refine hZ _ ?_; clear hZ) | (refine hZ ?_; clear hZ) | rw [again_nil] | rw [walk_fin] | ((first | rw [walk_take] | rw [walk_run] | rw [again_cons]); intro Z hZ; simp only [sel, List.getElem?_toArray, List.getElem?_cons_zero, List.getElem?_cons_succ]; go_wp2_with (first | (refine wpList_store_va rfl rfl (.tmp 4) (.tmp 9) rfl w.heap.size rfl x rfl h1 ?_; intro W6 hb6 hg6; have h26 := h2.grown hg6 (by simp; omega); have h46 := h4.grown hg6 (by simp; omega)) | (refine wpList_store_va rfl rfl (.tmp 5) (.tmp 11) rfl gb rfl y rfl h26 ?_; intro W7 hb7 hg7))))
  have h1 := hb6.grown hg7 (by simp; omega)
  have h4 := h46.grown hg7 (by simp; omega)
  have HB7 := Lib.hid (below_of_grown (below_of_grown HB5.out hg6 (Nat.le_refl _) HB5.out.size) hg7 (by omega) (Nat.le_trans HB5.out.size hg6.size))
  clear hg6 hg7 hb6 h26 h46 HB5
  have HVC : Hid (Ev.cmpV op a b = if x.k = 0 ∨ x.k ≠ y.k then Key.nul else Ev.optB (Ev.sign op (Key.vord x y))) := by
    show _ = _
    unfold Ev.cmpV
    rw [Ev.clean_dk, Ev.clean_dk, Ev.vord_clean, HX.out, HY.out]
  have HCX : Hid (Key.vord (Key.dclean x) (Key.dclean y) = Key.vord x y) := by show _ = _; rw [← HX.out, ← HY.out, ← Ev.vord_clean, ← Ev.vord_clean a, Ev.clean_dclean, Ev.clean_dclean]
  obtain ⟨c0, -, -, -, -⟩ := Blk.c4 h1
  obtain ⟨d0, -, -, -, -⟩ := Blk.c4 hb7
  clear HX HY HA HB
  by_cases hk : x.k = 0 ∨ x.k ≠ y.k
  · have HV : Hid (Ev.cmpV op a b = Key.nul) := by show _ = _; rw [HVC.out, if_pos hk]
    clear HVC HCX
    by_cases hkk : x.k = y.k
    · have h0 : x.k = 0 := hk.resolve_right (fun h => h hkk)
      have h0' : y.k = 0 := by omega
      rw [h0] at c0
      rw [h0'] at d0
      clear hk h0 h0' hkk
      go_wp2_with (refine wpList_store_va rfl rfl (.tmp 6) (.tmp 22) rfl g rfl Key.nul rfl h4 ?_; intro Wa hba hga)
      exact ret_va hba rfl rfl rfl ⟨by rw [HV.out], below_of_grown HB7.out hga (by omega) HB7.out.size⟩
    · have hkb : (x.k != y.k) = true := by simpa using hkk
      clear hk hkk
      go_wp2_with (refine wpList_store_va rfl rfl (.tmp 6) (.tmp 22) rfl g rfl Key.nul rfl h4 ?_; intro Wa hba hga)
      exact ret_va hba rfl rfl rfl ⟨by rw [HV.out], below_of_grown HB7.out hga (by omega) HB7.out.size⟩
  · have HVV : Hid (Ev.cmpV op a b = Ev.optB (Ev.sign op (Key.vord x y))) := by show _ = _; rw [HVC.out, if_neg hk]
    have hkb : (x.k != y.k) = false := by simp; by_cases e : x.k = y.k; exact e; exact absurd (.inr e) hk
    have h0b : (x.k == 0) = false := by simp; exact fun e => hk (.inl e)
    clear hk HVC
    go_upto_region 5 with fail
    clear c0 d0 hkb h0b
    have hg7l := h4.lt
    generalize hW8 : World.alloc W7 (.cells _ _) = W8
    obtain ⟨ba8, hz8, hB8⟩ := fresh1 hW8
    clear hW8
    have h1 := h1.below hB8
    have h2 := hb7.below hB8
    have h4 := h4.below hB8
    have HB8 := Lib.hid (HB7.out.then hB8)
    have hga := h2.lt
    have hgn : gb < W7.heap.size ∧ g < W7.heap.size := ⟨hb7.lt, hg7l⟩
    clear hB8 hz8 HB7 hb7
    generalize W7.heap.size = ga at ba8 hgn ⊢
    obtain ⟨q0, q1, q2, f0, f1, f2, hgl⟩ := c3of ba8
    have hcr := Key.vord_range x y
    by_cases hop : op = [61]
    · subst hop
      have HV : Hid (∀ c, Key.vord x y = c → Ev.cmpV [61] a b = Ev.boolV ((c == 0))) := fun c e => by rw [HVV.out, e]; rfl
      unfold txt
      skip
      go_upto_region 19 with fail
      have hq : Blk (World.setCell W8 ⟨ga, 1, none⟩ (.bool true)) ga 143 [.bool false, .bool true, .bool false] := (ba8).set1
      have k1 : Blk (World.setCell W8 ⟨ga, 1, none⟩ (.bool true)) w.heap.size 64 x.cells := ((h1).other ⟨ga, 1, none⟩ (by show _ ≠ ga; omega) (.bool true))
      have k2 : Blk (World.setCell W8 ⟨ga, 1, none⟩ (.bool true)) gb 64 y.cells := ((h2).other ⟨ga, 1, none⟩ (by show _ ≠ ga; omega) (.bool true))
      have k4 : Blk (World.setCell W8 ⟨ga, 1, none⟩ (.bool true)) g 64 Key.nul.cells := ((h4).other ⟨ga, 1, none⟩ (by show _ ≠ ga; omega) (.bool true))
      have HBq : Hid (Below w.heap.size w (World.setCell W8 ⟨ga, 1, none⟩ (.bool true))) := ((HB8.out).setCell (p := ⟨ga, 1, none⟩) (by show w.heap.size ≤ ga; omega) (.bool true))
      clear q0 q1 q2 f0 f1 f2 ba8 h1 h2 h4 HB8 HVV
      generalize World.setCell _ _ _ = Wq at hq k1 k2 k4 HBq ⊢
      go_wp2_with (first | (refine wpList_load_va rfl (.tmp 4) rfl w.heap.size rfl k1 ?_) | (refine wpList_load_va rfl (.tmp 5) rfl gb rfl k2 ?_))
      refine (vorder_any _ x y HXO.out HYO.out).mono ?_
      rintro e Wr ⟨rfl, hBr⟩
      have hq := hq.below hBr
      have k4 := k4.below hBr
      have HBr := Lib.hid (HBq.out.then hBr)
      clear hBr k1 k2 HBq
      rw [HCX.out]
      obtain ⟨u0, u1, u2, -, -, -, -⟩ := c3of hq
      rcases hcr with hc | hc | hc
      all_goals
        rw [hc]
        have HV := Lib.hid (HV.out _ hc)
        clear hc
        go_wp2_with fail
        refine (refbool_any _ _).mono ?_
        rintro e W9 ⟨rfl, hB9⟩
        have k4 := k4.below hB9
        have HB9 := Lib.hid (HBr.out.then hB9)
        clear hB9
        rw [boolV_v]
        generalize hd : Ev.boolV _ = d
        have HD := Lib.hid hd
        clear hd
        go_wp2_with (refine wpList_store_va rfl rfl (.tmp 6) (.tmp 53) rfl g rfl d rfl k4 ?_; intro Wa hba hga)
        exact ret_va hba rfl rfl rfl ⟨by rw [HV.out, ← HD.out]; rfl, below_of_grown HB9.out hga (by omega) HB9.out.size⟩
    have n1 := run_str_is op [61] hop
    by_cases hop2 : op = [60, 62]
    · subst hop2
      have HV : Hid (∀ c, Key.vord x y = c → Ev.cmpV [60, 62] a b = Ev.boolV ((c != 0))) := fun c e => by rw [HVV.out, e]; rfl
      unfold txt
      clear n1
      go_upto_region 19 with fail
      have hq : Blk (World.setCell (World.setCell W8 ⟨ga, 0, none⟩ (.bool true)) ⟨ga, 2, none⟩ (.bool true)) ga 143 [.bool true, .bool false, .bool true] := ((ba8).set0).set2
      have k1 : Blk (World.setCell (World.setCell W8 ⟨ga, 0, none⟩ (.bool true)) ⟨ga, 2, none⟩ (.bool true)) w.heap.size 64 x.cells := ((((h1).other ⟨ga, 0, none⟩ (by show _ ≠ ga; omega) (.bool true))).other ⟨ga, 2, none⟩ (by show _ ≠ ga; omega) (.bool true))
      have k2 : Blk (World.setCell (World.setCell W8 ⟨ga, 0, none⟩ (.bool true)) ⟨ga, 2, none⟩ (.bool true)) gb 64 y.cells := ((((h2).other ⟨ga, 0, none⟩ (by show _ ≠ ga; omega) (.bool true))).other ⟨ga, 2, none⟩ (by show _ ≠ ga; omega) (.bool true))
      have k4 : Blk (World.setCell (World.setCell W8 ⟨ga, 0, none⟩ (.bool true)) ⟨ga, 2, none⟩ (.bool true)) g 64 Key.nul.cells := ((((h4).other ⟨ga, 0, none⟩ (by show _ ≠ ga; omega) (.bool true))).other ⟨ga, 2, none⟩ (by show _ ≠ ga; omega) (.bool true))
      have HBq : Hid (Below w.heap.size w (World.setCell (World.setCell W8 ⟨ga, 0, none⟩ (.bool true)) ⟨ga, 2, none⟩ (.bool true))) := ((((HB8.out).setCell (p := ⟨ga, 0, none⟩) (by show w.heap.size ≤ ga; omega) (.bool true))).setCell (p := ⟨ga, 2, none⟩) (by show w.heap.size ≤ ga; omega) (.bool true))
      clear q0 q1 q2 f0 f1 f2 ba8 h1 h2 h4 HB8 HVV
      generalize World.setCell _ _ _ = Wq at hq k1 k2 k4 HBq ⊢
      go_wp2_with (first | (refine wpList_load_va rfl (.tmp 4) rfl w.heap.size rfl k1 ?_) | (refine wpList_load_va rfl (.tmp 5) rfl gb rfl k2 ?_))
      refine (vorder_any _ x y HXO.out HYO.out).mono ?_
      rintro e Wr ⟨rfl, hBr⟩
      have hq := hq.below hBr
      have k4 := k4.below hBr
      have HBr := Lib.hid (HBq.out.then hBr)
      clear hBr k1 k2 HBq
      rw [HCX.out]
      obtain ⟨u0, u1, u2, -, -, -, -⟩ := c3of hq
      rcases hcr with hc | hc | hc
      all_goals
        rw [hc]
        have HV := Lib.hid (HV.out _ hc)
        clear hc
        go_wp2_with fail
        refine (refbool_any _ _).mono ?_
        rintro e W9 ⟨rfl, hB9⟩
        have k4 := k4.below hB9
        have HB9 := Lib.hid (HBr.out.then hB9)
        clear hB9
        rw [boolV_v]
        generalize hd : Ev.boolV _ = d
        have HD := Lib.hid hd
        clear hd
        go_wp2_with (refine wpList_store_va rfl rfl (.tmp 6) (.tmp 53) rfl g rfl d rfl k4 ?_; intro Wa hba hga)
        exact ret_va hba rfl rfl rfl ⟨by rw [HV.out, ← HD.out]; rfl, below_of_grown HB9.out hga (by omega) HB9.out.size⟩
    have n2 := run_str_is op [60, 62] hop2
    by_cases hop3 : op = [60]
    · subst hop3
      have HV : Hid (∀ c, Key.vord x y = c → Ev.cmpV [60] a b = Ev.boolV (decide (c < 0))) := fun c e => by rw [HVV.out, e]; rfl
      unfold txt
      clear n1 n2
      go_upto_region 19 with fail
      have hq : Blk (World.setCell W8 ⟨ga, 0, none⟩ (.bool true)) ga 143 [.bool true, .bool false, .bool false] := (ba8).set0
      have k1 : Blk (World.setCell W8 ⟨ga, 0, none⟩ (.bool true)) w.heap.size 64 x.cells := ((h1).other ⟨ga, 0, none⟩ (by show _ ≠ ga; omega) (.bool true))
      have k2 : Blk (World.setCell W8 ⟨ga, 0, none⟩ (.bool true)) gb 64 y.cells := ((h2).other ⟨ga, 0, none⟩ (by show _ ≠ ga; omega) (.bool true))
      have k4 : Blk (World.setCell W8 ⟨ga, 0, none⟩ (.bool true)) g 64 Key.nul.cells := ((h4).other ⟨ga, 0, none⟩ (by show _ ≠ ga; omega) (.bool true))
      have HBq : Hid (Below w.heap.size w (World.setCell W8 ⟨ga, 0, none⟩ (.bool true))) := ((HB8.out).setCell (p := ⟨ga, 0, none⟩) (by show w.heap.size ≤ ga; omega) (.bool true))
      clear q0 q1 q2 f0 f1 f2 ba8 h1 h2 h4 HB8 HVV
      generalize World.setCell _ _ _ = Wq at hq k1 k2 k4 HBq ⊢
      go_wp2_with (first | (refine wpList_load_va rfl (.tmp 4) rfl w.heap.size rfl k1 ?_) | (refine wpList_load_va rfl (.tmp 5) rfl gb rfl k2 ?_))
      refine (vorder_any _ x y HXO.out HYO.out).mono ?_
      rintro e Wr ⟨rfl, hBr⟩
      have hq := hq.below hBr
      have k4 := k4.below hBr
      have HBr := Lib.hid (HBq.out.then hBr)
      clear hBr k1 k2 HBq
      rw [HCX.out]
      obtain ⟨u0, u1, u2, -, -, -, -⟩ := c3of hq
      rcases hcr with hc | hc | hc
      all_goals
        rw [hc]
        have HV := Lib.hid (HV.out _ hc)
        clear hc
        go_wp2_with fail
        refine (refbool_any _ _).mono ?_
        rintro e W9 ⟨rfl, hB9⟩
        have k4 := k4.below hB9
        have HB9 := Lib.hid (HBr.out.then hB9)
        clear hB9
        rw [boolV_v]
        generalize hd : Ev.boolV _ = d
        have HD := Lib.hid hd
        clear hd
        go_wp2_with (refine wpList_store_va rfl rfl (.tmp 6) (.tmp 53) rfl g rfl d rfl k4 ?_; intro Wa hba hga)
        exact ret_va hba rfl rfl rfl ⟨by rw [HV.out, ← HD.out]; rfl, below_of_grown HB9.out hga (by omega) HB9.out.size⟩
    have n3 := run_str_is op [60] hop3
    by_cases hop4 : op = [60, 61]
    · subst hop4
      have HV : Hid (∀ c, Key.vord x y = c → Ev.cmpV [60, 61] a b = Ev.boolV (decide (c ≤ 0))) := fun c e => by rw [HVV.out, e]; rfl
      unfold txt
      clear n1 n2 n3
      go_upto_region 19 with fail
      have hq : Blk (World.setCell (World.setCell W8 ⟨ga, 0, none⟩ (.bool true)) ⟨ga, 1, none⟩ (.bool true)) ga 143 [.bool true, .bool true, .bool false] := ((ba8).set0).set1
      have k1 : Blk (World.setCell (World.setCell W8 ⟨ga, 0, none⟩ (.bool true)) ⟨ga, 1, none⟩ (.bool true)) w.heap.size 64 x.cells := ((((h1).other ⟨ga, 0, none⟩ (by show _ ≠ ga; omega) (.bool true))).other ⟨ga, 1, none⟩ (by show _ ≠ ga; omega) (.bool true))
      have k2 : Blk (World.setCell (World.setCell W8 ⟨ga, 0, none⟩ (.bool true)) ⟨ga, 1, none⟩ (.bool true)) gb 64 y.cells := ((((h2).other ⟨ga, 0, none⟩ (by show _ ≠ ga; omega) (.bool true))).other ⟨ga, 1, none⟩ (by show _ ≠ ga; omega) (.bool true))
      have k4 : Blk (World.setCell (World.setCell W8 ⟨ga, 0, none⟩ (.bool true)) ⟨ga, 1, none⟩ (.bool true)) g 64 Key.nul.cells := ((((h4).other ⟨ga, 0, none⟩ (by show _ ≠ ga; omega) (.bool true))).other ⟨ga, 1, none⟩ (by show _ ≠ ga; omega) (.bool true))
      have HBq : Hid (Below w.heap.size w (World.setCell (World.setCell W8 ⟨ga, 0, none⟩ (.bool true)) ⟨ga, 1, none⟩ (.bool true))) := ((((HB8.out).setCell (p := ⟨ga, 0, none⟩) (by show w.heap.size ≤ ga; omega) (.bool true))).setCell (p := ⟨ga, 1, none⟩) (by show w.heap.size ≤ ga; omega) (.bool true))
      clear q0 q1 q2 f0 f1 f2 ba8 h1 h2 h4 HB8 HVV
      generalize World.setCell _ _ _ = Wq at hq k1 k2 k4 HBq ⊢
      go_wp2_with (first | (refine wpList_load_va rfl (.tmp 4) rfl w.heap.size rfl k1 ?_) | (refine wpList_load_va rfl (.tmp 5) rfl gb rfl k2 ?_))
      refine (vorder_any _ x y HXO.out HYO.out).mono ?_
      rintro e Wr ⟨rfl, hBr⟩
      have hq := hq.below hBr
      have k4 := k4.below hBr
      have HBr := Lib.hid (HBq.out.then hBr)
      clear hBr k1 k2 HBq
      rw [HCX.out]
      obtain ⟨u0, u1, u2, -, -, -, -⟩ := c3of hq
      rcases hcr with hc | hc | hc
      all_goals
        rw [hc]
        have HV := Lib.hid (HV.out _ hc)
        clear hc
        go_wp2_with fail
        refine (refbool_any _ _).mono ?_
        rintro e W9 ⟨rfl, hB9⟩
        have k4 := k4.below hB9
        have HB9 := Lib.hid (HBr.out.then hB9)
        clear hB9
        rw [boolV_v]
        generalize hd : Ev.boolV _ = d
        have HD := Lib.hid hd
        clear hd
        go_wp2_with (refine wpList_store_va rfl rfl (.tmp 6) (.tmp 53) rfl g rfl d rfl k4 ?_; intro Wa hba hga)
        exact ret_va hba rfl rfl rfl ⟨by rw [HV.out, ← HD.out]; rfl, below_of_grown HB9.out hga (by omega) HB9.out.size⟩
    have n4 := run_str_is op [60, 61] hop4
    by_cases hop5 : op = [62]
    · subst hop5
      have HV : Hid (∀ c, Key.vord x y = c → Ev.cmpV [62] a b = Ev.boolV (decide (0 < c))) := fun c e => by rw [HVV.out, e]; rfl
      unfold txt
      clear n1 n2 n3 n4
      go_upto_region 19 with fail
      have hq : Blk (World.setCell W8 ⟨ga, 2, none⟩ (.bool true)) ga 143 [.bool false, .bool false, .bool true] := (ba8).set2
      have k1 : Blk (World.setCell W8 ⟨ga, 2, none⟩ (.bool true)) w.heap.size 64 x.cells := ((h1).other ⟨ga, 2, none⟩ (by show _ ≠ ga; omega) (.bool true))
      have k2 : Blk (World.setCell W8 ⟨ga, 2, none⟩ (.bool true)) gb 64 y.cells := ((h2).other ⟨ga, 2, none⟩ (by show _ ≠ ga; omega) (.bool true))
      have k4 : Blk (World.setCell W8 ⟨ga, 2, none⟩ (.bool true)) g 64 Key.nul.cells := ((h4).other ⟨ga, 2, none⟩ (by show _ ≠ ga; omega) (.bool true))
      have HBq : Hid (Below w.heap.size w (World.setCell W8 ⟨ga, 2, none⟩ (.bool true))) := ((HB8.out).setCell (p := ⟨ga, 2, none⟩) (by show w.heap.size ≤ ga; omega) (.bool true))
      clear q0 q1 q2 f0 f1 f2 ba8 h1 h2 h4 HB8 HVV
      generalize World.setCell _ _ _ = Wq at hq k1 k2 k4 HBq ⊢
      go_wp2_with (first | (refine wpList_load_va rfl (.tmp 4) rfl w.heap.size rfl k1 ?_) | (refine wpList_load_va rfl (.tmp 5) rfl gb rfl k2 ?_))
      refine (vorder_any _ x y HXO.out HYO.out).mono ?_
      rintro e Wr ⟨rfl, hBr⟩
      have hq := hq.below hBr
      have k4 := k4.below hBr
      have HBr := Lib.hid (HBq.out.then hBr)
      clear hBr k1 k2 HBq
      rw [HCX.out]
      obtain ⟨u0, u1, u2, -, -, -, -⟩ := c3of hq
      rcases hcr with hc | hc | hc
      all_goals
        rw [hc]
        have HV := Lib.hid (HV.out _ hc)
        clear hc
        go_wp2_with fail
        refine (refbool_any _ _).mono ?_
        rintro e W9 ⟨rfl, hB9⟩
        have k4 := k4.below hB9
        have HB9 := Lib.hid (HBr.out.then hB9)
        clear hB9
        rw [boolV_v]
        generalize hd : Ev.boolV _ = d
        have HD := Lib.hid hd
        clear hd
        go_wp2_with (refine wpList_store_va rfl rfl (.tmp 6) (.tmp 53) rfl g rfl d rfl k4 ?_; intro Wa hba hga)
        exact ret_va hba rfl rfl rfl ⟨by rw [HV.out, ← HD.out]; rfl, below_of_grown HB9.out hga (by omega) HB9.out.size⟩
    have n5 := run_str_is op [62] hop5
    by_cases hop6 : op = [62, 61]
    · subst hop6
      have HV : Hid (∀ c, Key.vord x y = c → Ev.cmpV [62, 61] a b = Ev.boolV (decide (0 ≤ c))) := fun c e => by rw [HVV.out, e]; rfl
      unfold txt
      clear n1 n2 n3 n4 n5
      go_upto_region 19 with fail
      have hq : Blk (World.setCell (World.setCell W8 ⟨ga, 1, none⟩ (.bool true)) ⟨ga, 2, none⟩ (.bool true)) ga 143 [.bool false, .bool true, .bool true] := ((ba8).set1).set2
      have k1 : Blk (World.setCell (World.setCell W8 ⟨ga, 1, none⟩ (.bool true)) ⟨ga, 2, none⟩ (.bool true)) w.heap.size 64 x.cells := ((((h1).other ⟨ga, 1, none⟩ (by show _ ≠ ga; omega) (.bool true))).other ⟨ga, 2, none⟩ (by show _ ≠ ga; omega) (.bool true))
      have k2 : Blk (World.setCell (World.setCell W8 ⟨ga, 1, none⟩ (.bool true)) ⟨ga, 2, none⟩ (.bool true)) gb 64 y.cells := ((((h2).other ⟨ga, 1, none⟩ (by show _ ≠ ga; omega) (.bool true))).other ⟨ga, 2, none⟩ (by show _ ≠ ga; omega) (.bool true))
      have k4 : Blk (World.setCell (World.setCell W8 ⟨ga, 1, none⟩ (.bool true)) ⟨ga, 2, none⟩ (.bool true)) g 64 Key.nul.cells := ((((h4).other ⟨ga, 1, none⟩ (by show _ ≠ ga; omega) (.bool true))).other ⟨ga, 2, none⟩ (by show _ ≠ ga; omega) (.bool true))
      have HBq : Hid (Below w.heap.size w (World.setCell (World.setCell W8 ⟨ga, 1, none⟩ (.bool true)) ⟨ga, 2, none⟩ (.bool true))) := ((((HB8.out).setCell (p := ⟨ga, 1, none⟩) (by show w.heap.size ≤ ga; omega) (.bool true))).setCell (p := ⟨ga, 2, none⟩) (by show w.heap.size ≤ ga; omega) (.bool true))
      clear q0 q1 q2 f0 f1 f2 ba8 h1 h2 h4 HB8 HVV
      generalize World.setCell _ _ _ = Wq at hq k1 k2 k4 HBq ⊢
      go_wp2_with (first | (refine wpList_load_va rfl (.tmp 4) rfl w.heap.size rfl k1 ?_) | (refine wpList_load_va rfl (.tmp 5) rfl gb rfl k2 ?_))
      refine (vorder_any _ x y HXO.out HYO.out).mono ?_
      rintro e Wr ⟨rfl, hBr⟩
      have hq := hq.below hBr
      have k4 := k4.below hBr
      have HBr := Lib.hid (HBq.out.then hBr)
      clear hBr k1 k2 HBq
      rw [HCX.out]
      obtain ⟨u0, u1, u2, -, -, -, -⟩ := c3of hq
      rcases hcr with hc | hc | hc
      all_goals
        rw [hc]
        have HV := Lib.hid (HV.out _ hc)
        clear hc
        go_wp2_with fail
        refine (refbool_any _ _).mono ?_
        rintro e W9 ⟨rfl, hB9⟩
        have k4 := k4.below hB9
        have HB9 := Lib.hid (HBr.out.then hB9)
        clear hB9
        rw [boolV_v]
        generalize hd : Ev.boolV _ = d
        have HD := Lib.hid hd
        clear hd
        go_wp2_with (refine wpList_store_va rfl rfl (.tmp 6) (.tmp 53) rfl g rfl d rfl k4 ?_; intro Wa hba hga)
        exact ret_va hba rfl rfl rfl ⟨by rw [HV.out, ← HD.out]; rfl, below_of_grown HB9.out hga (by omega) HB9.out.size⟩
    have n6 := run_str_is op [62, 61] hop6
    have HV : Hid (Ev.cmpV op a b = Key.nul) := by
      show _ = _
      rw [HVV.out]
      unfold Ev.sign
      rw [if_neg hop, if_neg hop2, if_neg hop3, if_neg hop4, if_neg hop5, if_neg hop6]
      rfl
    clear hop hop2 hop3 hop4 hop5 hop6 HVV
    go_wp2_with (refine wpList_store_va rfl rfl (.tmp 6) (.tmp 25) rfl g rfl Key.nul rfl h4 ?_; intro Wa hba hga)
    exact ret_va hba rfl rfl rfl ⟨by rw [HV.out], below_of_grown HB8.out hga (by omega) HB8.out.size⟩
end Go.Proofs.YtpahkaffknnjhaaGreatDoor
end

section
namespace Go.Proofs.YtpahkaffknnjhaaGreatDoor
set_option linter.unusedSimpArgs false
set_option linter.unusedVariables false
open Go.RowKit
namespace Ev
def inR (x : Int) : Prop := -9223372036854775808 ≤ x ∧ x ≤ 9223372036854775807
instance (x : Int) : Decidable (inR x) := by unfold inR; infer_instance
theorem fit_in {x : Int} (h : inR x) : fit x = some x := by unfold fit; exact if_pos h
theorem fit_out {x : Int} (h : ¬ inR x) : fit x = none := by unfold fit; exact if_neg h
theorem wrap_in {x : Int} (h : inR x) : wrap64 x = x := IntWalk.wrap64_in x h
theorem wrap_mod (x : Int) : ∃ k : Int, wrap64 x = x + k * 18446744073709551616 := by
  unfold wrap64
  refine ⟨-((x + 9223372036854775808) / 18446744073709551616), ?_⟩
  omega
theorem wrap_range (x : Int) : inR (wrap64 x) := by unfold inR wrap64; omega
theorem add_ok {a b : Int} (ha : inR a) (hb : inR b) : (a < wrap64 (a + b) ↔ 0 < b) ↔ inR (a + b) := by
  unfold inR wrap64 at *
  omega
theorem sub_ok {a b : Int} (ha : inR a) (hb : inR b) : (wrap64 (a - b) < a ↔ 0 < b) ↔ inR (a - b) := by
  unfold inR wrap64 at *
  omega
theorem tdiv_half {n b : Int} (hb : 2 ≤ b.natAbs) : (n.tdiv b).natAbs * 2 ≤ n.natAbs := by
  rw [Int.natAbs_tdiv]
  show n.natAbs / b.natAbs * 2 ≤ n.natAbs
  have h1 : n.natAbs / b.natAbs * b.natAbs ≤ n.natAbs := Nat.div_mul_le_self _ _
  have h2 : n.natAbs / b.natAbs * 2 ≤ n.natAbs / b.natAbs * b.natAbs := Nat.mul_le_mul_left _ hb
  exact Nat.le_trans h2 h1
theorem mul_ok {a b : Int} (ha : inR a) (hb : inR b) (a0 : a ≠ 0) (b0 : b ≠ 0) :
    (wrap64 ((wrap64 (a * b)).tdiv b) = a ∧ ¬ (a = -1 ∧ b = -9223372036854775808) ∧ ¬ (b = -1 ∧ a = -9223372036854775808)) ↔ inR (a * b) := by
  constructor
  · rintro ⟨hq, h1, h2⟩
    by_cases hb1 : b = -1
    · subst hb1
      have : a * -1 = -a := by omega
      rw [this]
      unfold inR at *
      have : a ≠ -9223372036854775808 := fun e => h2 ⟨rfl, e⟩
      omega
    by_cases hb2 : b = 1
    · subst hb2; rw [Int.mul_one]; exact ha
    have hbb : 2 ≤ b.natAbs := by omega
    have hr := wrap_range (a * b)
    obtain ⟨k, hk⟩ := wrap_mod (a * b)
    generalize hn : wrap64 (a * b) = n at hq hr hk
    have hh := tdiv_half (n := n) hbb
    have hqr : inR (n.tdiv b) := by unfold inR at *; omega
    rw [wrap_in hqr] at hq
    have hm := Int.mul_tdiv_add_tmod n b
    rw [hq] at hm
    have hml : (n.tmod b).natAbs < b.natAbs := by
      rw [Int.natAbs_tmod]
      exact Nat.mod_lt _ (by omega)
    have hbu : b.natAbs ≤ 9223372036854775808 := by unfold inR at hb; omega
    have hcomm : b * a = a * b := Int.mul_comm b a
    rw [hcomm] at hm
    have : k = 0 := by omega
    subst this
    have : n = a * b := by omega
    rw [← this]; exact hr
  · intro h
    refine ⟨?_, ?_, ?_⟩
    · rw [wrap_in h, Int.mul_tdiv_cancel _ b0, wrap_in ha]
    · rintro ⟨rfl, rfl⟩; unfold inR at h; omega
    · rintro ⟨rfl, rfl⟩; unfold inR at h; omega
end Ev
end Go.Proofs.YtpahkaffknnjhaaGreatDoor
end

section
namespace Go.Proofs.YtpahkaffknnjhaaGreatDoor
set_option linter.unusedSimpArgs false
set_option linter.unusedVariables false
open Go.RowKit
namespace Ev
theorem word_lt (s : Bool) (r : Nat) (h : r < 9223372036854775808) : Ieee.double.word s r < 18446744073709551616 := by
  have e0 : Ieee.double.signWeight = 9223372036854775808 := by decide
  unfold Ieee.Format.word
  rw [e0]
  split <;> omega
theorem write_lt (d : Ieee.Datum) : Ieee.double.write d < 18446744073709551616 := by
  have e1 : Ieee.double.infRung = 9218868437227405312 := by decide
  have e2 : Ieee.double.binade = 4503599627370496 := by decide
  unfold Ieee.Format.write
  cases d with
  | number s m p =>
    simp only
    unfold Ieee.Format.nearest
    split
    · exact word_lt s 0 (by decide)
    · exact word_lt s _ (Nat.lt_of_le_of_lt (Nat.min_le_right _ _) (by rw [e1]; decide))
  | infinity s => exact word_lt s _ (by rw [e1]; decide)
  | nan s t => exact word_lt s _ (by rw [e1, e2]; have := Nat.mod_lt t (show 0 < 4503599627370496 by decide); omega)
theorem sum_nan {a b : Ieee.Datum} (h : (∃ s t, a = .nan s t) ∨ (∃ s t, b = .nan s t)) : a.sum b = none := by
  rcases h with ⟨s, t, rfl⟩ | ⟨s, t, rfl⟩
  · rfl
  · cases a <;> rfl
theorem prod_nan {a b : Ieee.Datum} (h : (∃ s t, a = .nan s t) ∨ (∃ s t, b = .nan s t)) : a.product b = none := by
  rcases h with ⟨s, t, rfl⟩ | ⟨s, t, rfl⟩
  · rfl
  · cases a <;> rfl
theorem read_nan {x : Nat} (h : fnan x) : ∃ s t, Ieee.double.read x = .nan s t := Fl.read_nan h
theorem add_nan {x y : Nat} (h : fnan x ∨ fnan y) : Ieee.double.add x y = none := by
  unfold Ieee.Format.add
  rw [sum_nan (h.imp read_nan read_nan)]; rfl
theorem sub_nan {x y : Nat} (h : fnan x ∨ fnan y) : Ieee.double.sub x y = none := by
  unfold Ieee.Format.sub
  rw [sum_nan (h.imp read_nan fun h => by obtain ⟨s, t, e⟩ := read_nan h; exact ⟨!s, t, by rw [e]; rfl⟩)]; rfl
theorem mul_nan {x y : Nat} (h : fnan x ∨ fnan y) : Ieee.double.mul x y = none := by
  unfold Ieee.Format.mul
  rw [prod_nan (h.imp read_nan read_nan)]; rfl
theorem map_lt {d : Option Ieee.Datum} {r : Nat} (h : d.map Ieee.double.write = some r) : r < 18446744073709551616 := by
  cases d with
  | none => simp at h
  | some d => simp only [Option.map_some, Option.some.injEq] at h; rw [← h]; exact write_lt d
theorem add_lt {x y r : Nat} (h : Ieee.double.add x y = some r) : r < 18446744073709551616 := map_lt h
theorem sub_lt {x y r : Nat} (h : Ieee.double.sub x y = some r) : r < 18446744073709551616 := map_lt h
theorem mul_lt {x y r : Nat} (h : Ieee.double.mul x y = some r) : r < 18446744073709551616 := map_lt h
theorem drawn_nan (t : Nat) : fnan ((t % 2) * 2 ^ 63 + 0x7ff0000000000000 + 1 + (t / 2) % (2 ^ 52 - 1)) ∧ (t % 2) * 2 ^ 63 + 0x7ff0000000000000 + 1 + (t / 2) % (2 ^ 52 - 1) < 18446744073709551616 := by
  have h1 := Nat.mod_lt t (show 0 < 2 by decide)
  have h2 := Nat.mod_lt (t / 2) (show 0 < 2 ^ 52 - 1 by decide)
  have e1 : (2 : Nat) ^ 63 = 9223372036854775808 := by decide
  have e2 : (2 : Nat) ^ 52 - 1 = 4503599627370495 := by decide
  rw [e2] at h2 ⊢
  rw [e1]
  generalize t / 2 % 4503599627370495 = q at h2 ⊢
  generalize t % 2 = p at h1 ⊢
  unfold fnan
  rcases (show p = 0 ∨ p = 1 by omega) with rfl | rfl <;> omega
theorem xor_top (y : Nat) (h : y < 9223372036854775808) : y ^^^ 2 ^ 63 = y + 9223372036854775808 := by
  rw [show y + 9223372036854775808 = 2 ^ 63 + y by omega]
  apply Nat.eq_of_testBit_eq
  intro j
  rw [Nat.testBit_xor, Nat.testBit_two_pow]
  have hy : y < 2 ^ 63 := by simpa using h
  rcases Nat.lt_trichotomy j 63 with h1 | h1 | h1
  · rw [Nat.testBit_two_pow_add_gt h1]
    have : decide (63 = j) = false := by simp; omega
    rw [this, Bool.xor_false]
  · subst h1
    rw [Nat.testBit_two_pow_add_eq]
    simp
  · have h2 : 2 ^ 63 + y < 2 ^ j := by
      have : 2 ^ 64 ≤ 2 ^ j := Nat.pow_le_pow_right (by omega) h1
      omega
    rw [Nat.testBit_lt_two_pow h2, Nat.testBit_lt_two_pow (Nat.lt_of_le_of_lt (Nat.le_add_left y (2 ^ 63)) h2)]
    have : decide (63 = j) = false := by simp; omega
    rw [this]; rfl
theorem xor_top2 (y : Nat) (h : y < 9223372036854775808) : (y + 9223372036854775808) ^^^ 2 ^ 63 = y := by
  rw [← xor_top y h, Nat.xor_assoc, Nat.xor_self, Nat.xor_zero]
theorem real1_nanc : Key.real1 9221120237041090561 = 9221120237041090561 := by decide
theorem real1_of_nan {r : Nat} (h : fnan r) : Key.real1 r = 9221120237041090561 := by unfold Key.real1; rw [if_pos h]
end Ev
structure FRun (w : World) (act : Sem Value) (o : Option Nat) : Prop where
  out : ∃ r W', act.run Tryz.prog w = .ok (.float .f64 r) W' ∧ r < two64 ∧ Key.real1 r = Key.real1 (Ev.fnum o) ∧ Below w.heap.size w W'
theorem frun_of (w : World) (x y : Nat) (op : BinOp) (o : Option Nat) (ho : ∀ r, o = some r → r < 18446744073709551616)
    (h : (binOp op 62 (.float .f64 x) (.float .f64 y)).run Tryz.prog w = (match o with | some r => (pure (.float .f64 r) : Sem Value) | none => do pure (.float .f64 (← choose (.nanBits .f64 x y)))).run Tryz.prog w) : FRun w (binOp op 62 (.float .f64 x) (.float .f64 y)) o := by
  cases o with
  | some r => exact ⟨r, w, by rw [h]; rfl, by rw [two64_eq]; exact ho r rfl, rfl, Below.refl _ _⟩
  | none =>
    have hc : (choose (.nanBits .f64 x y)).run Tryz.prog w = .ok ((Question.nanBits .f64 x y).cut (w.tape w.drawn (.nanBits .f64 x y))) w.drew := by
      have := run_choose_drew Tryz.prog w (.nanBits .f64 x y)
      rw [this]; rfl
    have hn := Ev.drawn_nan (w.tape w.drawn (.nanBits .f64 x y))
    refine ⟨_, w.drew, by rw [h]; simp only [Sem.run_bind, hc]; rfl, ?_, ?_, (Below.refl _ _).drewR⟩
    · rw [two64_eq]; exact hn.2
    · show _ = Key.real1 9221120237041090561
      rw [Ev.real1_nanc]; exact Ev.real1_of_nan hn.1
theorem run_fadd (w : World) (x y : Nat) : FRun w (binOp .add 62 (.float .f64 x) (.float .f64 y)) (Ieee.double.add x y) :=
  frun_of w x y .add _ (fun _ h => Ev.add_lt h) (by
    show Sem.run _ (Op.floatArith .add .f64 x y) w = _
    unfold Op.floatArith
    simp only [Sem.run_bind, Sem.run_pure, Result.andThen_ok]
    show Sem.run _ (match Ieee.double.add x y with | some r => _ | none => _) w = _
    cases Ieee.double.add x y <;> rfl)
theorem run_fsub (w : World) (x y : Nat) : FRun w (binOp .sub 62 (.float .f64 x) (.float .f64 y)) (Ieee.double.sub x y) :=
  frun_of w x y .sub _ (fun _ h => Ev.sub_lt h) (by
    show Sem.run _ (Op.floatArith .sub .f64 x y) w = _
    unfold Op.floatArith
    simp only [Sem.run_bind, Sem.run_pure, Result.andThen_ok]
    show Sem.run _ (match Ieee.double.sub x y with | some r => _ | none => _) w = _
    cases Ieee.double.sub x y <;> rfl)
theorem run_fmul (w : World) (x y : Nat) : FRun w (binOp .mul 62 (.float .f64 x) (.float .f64 y)) (Ieee.double.mul x y) :=
  frun_of w x y .mul _ (fun _ h => Ev.mul_lt h) (by
    show Sem.run _ (Op.floatArith .mul .f64 x y) w = _
    unfold Op.floatArith
    simp only [Sem.run_bind, Sem.run_pure, Result.andThen_ok]
    show Sem.run _ (match Ieee.double.mul x y with | some r => _ | none => _) w = _
    cases Ieee.double.mul x y <;> rfl)
theorem run_fneg (w : World) (x : Nat) (hx : x < two64) : (Op.unary .neg (.float .f64 x)).run Tryz.prog w = .ok (.float .f64 (Ev.fneg x)) w := by
  have hl : x < 18446744073709551616 := by rw [← two64_eq]; exact hx
  have h : x ^^^ 2 ^ 63 = Ev.fneg x := by
    unfold Ev.fneg
    split
    · next h =>
      have := Ev.xor_top2 (x - 9223372036854775808) (by omega)
      rw [Nat.sub_add_cancel h] at this
      exact this
    · next h => exact Ev.xor_top x (by omega)
  show Sem.run _ (pure (Value.float .f64 (x ^^^ 2 ^ 63))) w = _
  rw [h]; rfl
end Go.Proofs.YtpahkaffknnjhaaGreatDoor
end

section
namespace Go.Proofs.YtpahkaffknnjhaaGreatDoor
set_option linter.unusedSimpArgs false
set_option linter.unusedVariables false
open Go.RowKit
def RetW (w : World) (r : Option Int) (e : Ending) (w' : World) : Prop := ∃ x : Int, e = .returned (.tuple #[.int .i64 x, .bool r.isSome]) ∧ (∀ y, r = some y → x = y) ∧ w = w'
theorem retW_of {w : World} {x : Int} {ok : Bool} {y : Int} {e : Ending} (he : e = .returned (.tuple #[.int .i64 x, .bool ok])) (h : (ok = true ↔ Ev.inR y)) (hx : Ev.inR y → x = y) : RetW w (Ev.fit y) e w := by
  by_cases hy : Ev.inR y
  · rw [Ev.fit_in hy]
    refine ⟨x, ?_, fun z hz => by cases hz; exact hx hy, rfl⟩
    rw [he, h.2 hy]; rfl
  · rw [Ev.fit_out hy]
    refine ⟨x, ?_, (by intro z hz; cases hz), rfl⟩
    have : ok = false := by cases ok with | true => exact absurd (h.1 rfl) hy | false => rfl
    rw [he, this]; rfl
set_option maxRecDepth 100000 in
set_option maxHeartbeats 4000000 in
theorem vwhole_any (w : World) (op : List UInt8) (a b : Int) (ha : Ev.inR a) (hb : Ev.inR b) : Calls Tryz.prog 104 #[txt op, .int .i64 a, .int .i64 b] w (RetW w (Ev.whole op a b)) := by
  have HA := Lib.hid ha
  have HB := Lib.hid hb
  have hgs := guard_str_is
  clear ha hb
  by_cases hop : op = [43]
  · subst hop
    have HV : Hid (Ev.whole [43] a b = Ev.fit (a + b)) := rfl
    clear hgs
    unfold txt
    go_enter Tryz.func104, Tryz.ntmps104
    go_wp2_with fail
    refine bodyPost_ret (v := .tuple #[.int .i64 (wrap64 (a + b)), .bool (decide (a < wrap64 (a + b)) == decide (0 < b))]) (by simp [results, Tryz.results104, go_sem]) rfl ?_
    rw [HV.out]
    refine retW_of rfl ?_ (fun h => Ev.wrap_in h)
    rw [← Ev.add_ok HA.out HB.out]
    simp
  have n1 := run_str_is op [43] hop
  by_cases hop2 : op = [45]
  · subst hop2
    have HV : Hid (Ev.whole [45] a b = Ev.fit (a - b)) := rfl
    clear hgs n1
    unfold txt
    go_enter Tryz.func104, Tryz.ntmps104
    go_wp2_with fail
    refine bodyPost_ret (v := .tuple #[.int .i64 (wrap64 (a - b)), .bool (decide (wrap64 (a - b) < a) == decide (0 < b))]) (by simp [results, Tryz.results104, go_sem]) rfl ?_
    rw [HV.out]
    refine retW_of rfl ?_ (fun h => Ev.wrap_in h)
    rw [← Ev.sub_ok HA.out HB.out]
    simp
  have n2 := run_str_is op [45] hop2
  by_cases hop3 : op = [42]
  · subst hop3
    have HV : Hid (Ev.whole [42] a b = Ev.fit (a * b)) := rfl
    clear hgs n1 n2
    unfold txt
    by_cases a0 : a = 0
    · subst a0
      go_enter Tryz.func104, Tryz.ntmps104
      go_wp2_with fail
      refine bodyPost_ret (v := .tuple #[.int .i64 0, .bool true]) (by simp [results, Tryz.results104, go_sem]) rfl ?_
      rw [HV.out, Int.zero_mul]
      exact retW_of rfl ⟨fun _ => by decide, fun _ => rfl⟩ (fun _ => rfl)
    have ha0 : (a == 0) = false := by simp [a0]
    by_cases b0 : b = 0
    · subst b0
      clear a0
      go_enter Tryz.func104, Tryz.ntmps104
      go_wp2_with fail
      refine bodyPost_ret (v := .tuple #[.int .i64 0, .bool true]) (by simp [results, Tryz.results104, go_sem]) rfl ?_
      rw [HV.out, Int.mul_zero]
      exact retW_of rfl ⟨fun _ => by decide, fun _ => rfl⟩ (fun _ => rfl)
    have hb0 : (b == 0) = false := by simp [b0]
    have hmk := Ev.mul_ok HA.out HB.out a0 b0
    have hwi : Ev.inR (a * b) → wrap64 (a * b) = a * b := fun h => Ev.wrap_in h
    go_enter Tryz.func104, Tryz.ntmps104
    have HMK := Lib.hid hmk
    have HWI := Lib.hid hwi
    clear hmk hwi
    go_upto_region 12 with fail
    have HB0 := Lib.hid b0
    clear a0 hop hop2 ha0
    generalize wrap64 (a * b) = n at HMK HWI ⊢
    obtain ⟨q, hq⟩ : ∃ q, wrap64 (n.tdiv b) = q := ⟨_, rfl⟩
    rw [hq] at HMK
    obtain ⟨x0, h0⟩ : ∃ x, (q == a) = x := ⟨_, rfl⟩
    obtain ⟨x1, h1⟩ : ∃ x, (a == -1) = x := ⟨_, rfl⟩
    obtain ⟨x2, h2⟩ : ∃ x, (b == -9223372036854775808) = x := ⟨_, rfl⟩
    obtain ⟨x3, h3⟩ : ∃ x, (b == -1) = x := ⟨_, rfl⟩
    obtain ⟨x4, h4⟩ : ∃ x, (a == -9223372036854775808) = x := ⟨_, rfl⟩
    have HOK : Hid ((x0 && !(x1 && x2) && !(x3 && x4)) = true ↔ Ev.inR (a * b)) := by
      show _ ↔ _
      rw [← HMK.out, ← h0, ← h1, ← h2, ← h3, ← h4]
      simp
      constructor
      · rintro ⟨⟨e, f⟩, g⟩; exact ⟨e, fun h => by rcases f with f | f; exact fun _ => f h; exact f, fun h => by rcases g with f | f; exact fun _ => f h; exact f⟩
      · rintro ⟨e, f, g⟩
        exact ⟨⟨e, by by_cases h : a = -1; exact .inr (f h); exact .inl h⟩, by by_cases h : b = -1; exact .inr (g h); exact .inl h⟩
    clear HMK
    cases x0 <;> cases x1 <;> cases x2 <;> cases x3 <;> cases x4
    all_goals
      go_wp2_with fail
      refine bodyPost_ret (v := .tuple #[.int .i64 n, .bool _]) (by simp [results, Tryz.results104, go_sem]; rfl) rfl ?_
      rw [HV.out]
      exact retW_of rfl HOK.out HWI.out
  have n3 := run_str_is op [42] hop3
  have HV : Hid (Ev.whole op a b = none) := by show _ = _; unfold Ev.whole; rw [if_neg hop, if_neg hop2, if_neg hop3]
  clear hop hop2 hop3
  go_enter Tryz.func104, Tryz.ntmps104
  go_wp2_with fail
  refine bodyPost_ret (v := .tuple #[.int .i64 0, .bool false]) (by simp [results, Tryz.results104, go_sem]) rfl ?_
  rw [HV.out]
  exact ⟨0, rfl, (by intro z hz; cases hz), rfl⟩
set_option maxRecDepth 100000 in
set_option maxHeartbeats 4000000 in
theorem varith_any (w : World) (op : List UInt8) (a b : Va) (ha : a.ok) (hb : b.ok) : Calls Tryz.prog 66 #[txt op, a.v, b.v] w (RetV w (Ev.arithV op a b)) := by
  have HA := Lib.hid ha
  have HB := Lib.hid hb
  have HXO := Lib.hid (Ev.clean_ok ha)
  have HYO := Lib.hid (Ev.clean_ok hb)
  have hgs := guard_str_is
  clear ha hb
  go_enter Tryz.func66, Tryz.ntmps66
  go_upto_region 1 with (first | (refine wpList_box_va rfl (.tmp 1) rfl a rfl ?_; intro W1 hb1 hz1 hB1) | (refine wpList_box_va rfl (.tmp 2) rfl b rfl ?_; intro W2 hb2 hz2 hB2) | (refine wpList_alloc_va rfl rfl ?_; intro W3 hb3 hz3 hB3))
  have h1 := ((hb1.below hB2).below hB3).drew
  have h2 := (hb2.below hB3).drew
  have h4 := hb3.drew
  have HB3 := Lib.hid ((hB1.then hB2).then hB3).drewR
  have hw1 : w.heap.size < W1.heap.size ∧ W1.heap.size < W2.heap.size := by have := hB1.size; have := hB2.size; omega
  clear hb1 hb2 hb3 hB1 hB2 hB3 hz1 hz2 hz3
  generalize W2.heap.size = g at h4 hw1 ⊢
  generalize W1.heap.size = gb at h2 hw1 ⊢
  refine wp_region_plan (.take 0 (.take 2 (.run 1 [2] (.run 3 [] (.run 4 [] (.run 5 [] .fin)))))) (by kernel_rfl) (by kernel_rfl) (by kernel_rfl) (by kernel_rfl) ?_
  repeat' (first | (refine hZ _ _ ?_; clear hZ) | (refine hZ _ ?_; clear hZ) | (refine hZ ?_; clear hZ) | rw [again_nil] | rw [walk_fin] | ((first | rw [walk_take] | rw [walk_run] | rw [again_cons]); intro Z hZ; simp only [sel, List.getElem?_toArray, List.getElem?_cons_zero, List.getElem?_cons_succ]; go_wp2_with (first | (refine wpList_load_va rfl (.tmp 4) rfl w.heap.size rfl h1 ?_) | (refine wpList_load_va rfl (.tmp 5) rfl gb rfl h2 ?_))))
  refine (clean_any _ a HA.out).mono ?_
  rintro e W4 ⟨rfl, hB4⟩
  have h1 := h1.below hB4
  have h2 := h2.below hB4
  have h4 := h4.below hB4
  have HB4 := Lib.hid (HB3.out.trans (hB4.mono HB3.out.size))
  clear hB4 HB3
  go_wp2_with fail
  repeat' (first | (refine hZ _ _ ?_; clear hZ) | (refine hZ _ ?_; clear hZ) | (refine hZ ?_; clear hZ) | rw [again_nil] | rw [walk_fin] | ((first | rw [walk_take] | rw [walk_run] | rw [again_cons]); intro Z hZ; simp only [sel, List.getElem?_toArray, List.getElem?_cons_zero, List.getElem?_cons_succ]; go_wp2_with (first | (refine wpList_load_va rfl (.tmp 4) rfl w.heap.size rfl h1 ?_) | (refine wpList_load_va rfl (.tmp 5) rfl gb rfl h2 ?_))))
  refine (clean_any _ b HB.out).mono ?_
  rintro e W5 ⟨rfl, hB5⟩
  have h1 := h1.below hB5
  have h2 := h2.below hB5
  have h4 := h4.below hB5
  have HB5 := Lib.hid (HB4.out.then hB5)
  clear hB5 HB4
  generalize hX : Key.clean a = x at HXO ⊢
  generalize hY : Key.clean b = y at HYO ⊢
  have HX := Lib.hid hX
  have HY := Lib.hid hY
  clear hX hY
  go_wp2_with fail
  repeat' (first | (refine hZ _ _ ?_; clear hZ) | (refine hZ _ ?_; clear hZ) | (refine hZ ?_; clear hZ) | rw [again_nil] | rw [walk_fin] | ((first | rw [walk_take] | rw [walk_run] | rw [again_cons]); intro Z hZ; simp only [sel, List.getElem?_toArray, List.getElem?_cons_zero, List.getElem?_cons_succ]; go_wp2_with (first | (refine wpList_store_va rfl rfl (.tmp 4) (.tmp 10) rfl w.heap.size rfl x rfl h1 ?_; intro W6 hb6 hg6; have h26 := h2.grown hg6 (by simp; omega); have h46 := h4.grown hg6 (by simp; omega)) | (refine wpList_store_va rfl rfl (.tmp 5) (.tmp 12) rfl gb rfl y rfl h26 ?_; intro W7 hb7 hg7))))
  have h1 := hb6.grown hg7 (by simp; omega)
  have h4 := h46.grown hg7 (by simp; omega)
  have HB7 := Lib.hid (below_of_grown (below_of_grown HB5.out hg6 (Nat.le_refl _) HB5.out.size) hg7 (by omega) (Nat.le_trans HB5.out.size hg6.size))
  clear hg6 hg7 hb6 h26 h46 HB5
  have HVC : Hid (Ev.arithV op a b = if x.k = 1 ∧ y.k = 1 then Ev.intV (Ev.whole op x.n y.n) else if x.k = 2 ∧ y.k = 2 then Ev.realV (Ev.fop op x.f y.f) else Key.nul) := by
    show _ = _
    unfold Ev.arithV
    rw [HX.out, HY.out]
  clear HX HY HA HB
  obtain ⟨c0, c1, c2, c3, -⟩ := Blk.c4 h1
  obtain ⟨d0, d1, d2, d3, -⟩ := Blk.c4 hb7
  clear c3 d3 h1 hb7
  by_cases hi : x.k = 1 ∧ y.k = 1
  · have HV1 : Hid (Ev.arithV op a b = Ev.intV (Ev.whole op x.n y.n)) := by show _ = _; rw [HVC.out, if_pos hi]
    rw [hi.1] at c0
    rw [hi.2] at d0
    clear hi HVC
    go_wp2_with fail
    refine (vwhole_any _ op x.n y.n ⟨HXO.out.n1, HXO.out.n2⟩ ⟨HYO.out.n1, HYO.out.n2⟩).mono ?_
    rintro e wq ⟨n, rfl, hn, rfl⟩
    generalize Ev.whole op x.n y.n = r at HV1 hn ⊢
    cases r with
    | none =>
      have HV : Hid (Ev.arithV op a b = Key.nul) := HV1.out
      clear HV1 hn
      go_wp2_with (refine wpList_store_va rfl rfl (.tmp 6) (.tmp 68) rfl g rfl Key.nul rfl h4 ?_; intro Wa hba hga)
      exact ret_va hba rfl rfl rfl ⟨by rw [HV.out], below_of_grown HB7.out hga (by omega) HB7.out.size⟩
    | some z =>
      obtain rfl : n = z := hn z rfl
      have HV : Hid (Ev.arithV op a b = ⟨1, n, 0, []⟩) := HV1.out
      clear HV1 hn
      go_wp2_with fail
      refine (ofint_any _ n).mono ?_
      rintro e W9 ⟨rfl, hB9⟩
      have h4 := h4.below hB9
      have HB9 := Lib.hid (HB7.out.then hB9)
      clear hB9
      go_wp2_with (refine wpList_store_va rfl rfl (.tmp 6) (.tmp 33) rfl g rfl ⟨1, n, 0, []⟩ rfl h4 ?_; intro Wa hba hga)
      exact ret_va hba rfl rfl rfl ⟨by rw [HV.out], below_of_grown HB9.out hga (by omega) HB9.out.size⟩
  have HVD : Hid (Ev.arithV op a b = if x.k = 2 ∧ y.k = 2 then Ev.realV (Ev.fop op x.f y.f) else Key.nul) := by show _ = _; rw [HVC.out, if_neg hi]
  clear HVC
  by_cases hr : x.k = 2 ∧ y.k = 2
  · have HVE : Hid (Ev.arithV op a b = Ev.realV (Ev.fop op x.f y.f)) := by show _ = _; rw [HVD.out, if_pos hr]
    rw [hr.1] at c0
    rw [hr.2] at d0
    clear hi hr HVD
    by_cases hop : op = [43]
    · subst hop
      unfold txt
      obtain ⟨r, Wf, hadd, hrl, hre, hBf⟩ := (run_fadd W7 x.f y.f).out
      have HV : Hid (Ev.arithV [43] a b = ⟨2, 0, Key.real1 r, []⟩) := by show _ = _; rw [HVE.out, hre]; rfl
      have HRL := Lib.hid hrl
      have HBF := Lib.hid (HB7.out.then hBf)
      have h4 := h4.below hBf
      clear hrl hre HVE hBf
      go_wp2_with fail
      refine (ofreal_any _ r HRL.out).mono ?_
      rintro e W9 ⟨rfl, hB9⟩
      have h4 := h4.below hB9
      have HB9 := Lib.hid (HBF.out.then hB9)
      clear hB9 hadd c0 c1 c2 d0 d1 d2
      generalize Key.real1 r = q at HV ⊢
      go_wp2_with (refine wpList_store_va rfl rfl (.tmp 6) (.tmp 51) rfl g rfl ⟨2, 0, q, []⟩ rfl h4 ?_; intro Wa hba hga)
      exact ret_va hba rfl rfl rfl ⟨by rw [HV.out], below_of_grown HB9.out hga (by omega) HB9.out.size⟩
    have n1 := run_str_is op [43] hop
    by_cases hop2 : op = [45]
    · subst hop2
      unfold txt
      obtain ⟨r, Wf, hadd, hrl, hre, hBf⟩ := (run_fsub W7 x.f y.f).out
      have HV : Hid (Ev.arithV [45] a b = ⟨2, 0, Key.real1 r, []⟩) := by show _ = _; rw [HVE.out, hre]; rfl
      clear n1
      have HRL := Lib.hid hrl
      have HBF := Lib.hid (HB7.out.then hBf)
      have h4 := h4.below hBf
      clear hrl hre HVE hBf
      go_wp2_with fail
      refine (ofreal_any _ r HRL.out).mono ?_
      rintro e W9 ⟨rfl, hB9⟩
      have h4 := h4.below hB9
      have HB9 := Lib.hid (HBF.out.then hB9)
      clear hB9 hadd c0 c1 c2 d0 d1 d2
      generalize Key.real1 r = q at HV ⊢
      go_wp2_with (refine wpList_store_va rfl rfl (.tmp 6) (.tmp 59) rfl g rfl ⟨2, 0, q, []⟩ rfl h4 ?_; intro Wa hba hga)
      exact ret_va hba rfl rfl rfl ⟨by rw [HV.out], below_of_grown HB9.out hga (by omega) HB9.out.size⟩
    have n2 := run_str_is op [45] hop2
    by_cases hop3 : op = [42]
    · subst hop3
      unfold txt
      obtain ⟨r, Wf, hadd, hrl, hre, hBf⟩ := (run_fmul W7 x.f y.f).out
      have HV : Hid (Ev.arithV [42] a b = ⟨2, 0, Key.real1 r, []⟩) := by show _ = _; rw [HVE.out, hre]; rfl
      clear n1 n2
      have HRL := Lib.hid hrl
      have HBF := Lib.hid (HB7.out.then hBf)
      have h4 := h4.below hBf
      clear hrl hre HVE hBf
      go_wp2_with fail
      refine (ofreal_any _ r HRL.out).mono ?_
      rintro e W9 ⟨rfl, hB9⟩
      have h4 := h4.below hB9
      have HB9 := Lib.hid (HBF.out.then hB9)
      clear hB9 hadd c0 c1 c2 d0 d1 d2
      generalize Key.real1 r = q at HV ⊢
      go_wp2_with (refine wpList_store_va rfl rfl (.tmp 6) (.tmp 67) rfl g rfl ⟨2, 0, q, []⟩ rfl h4 ?_; intro Wa hba hga)
      exact ret_va hba rfl rfl rfl ⟨by rw [HV.out], below_of_grown HB9.out hga (by omega) HB9.out.size⟩
    have n3 := run_str_is op [42] hop3
    have HV : Hid (Ev.arithV op a b = Key.nul) := by show _ = _; rw [HVE.out]; unfold Ev.fop; rw [if_neg hop, if_neg hop2, if_neg hop3]; rfl
    clear hop hop2 hop3 HVE
    go_wp2_with (refine wpList_store_va rfl rfl (.tmp 6) (.tmp 68) rfl g rfl Key.nul rfl h4 ?_; intro Wa hba hga)
    exact ret_va hba rfl rfl rfl ⟨by rw [HV.out], below_of_grown HB7.out hga (by omega) HB7.out.size⟩
  · have HV : Hid (Ev.arithV op a b = Key.nul) := by show _ = _; rw [HVD.out, if_neg hr]
    clear HVD
    by_cases hx1 : x.k = 1
    · have hy1 : (y.k == 1) = false := by simp; exact fun e => hi ⟨hx1, e⟩
      rw [hx1] at c0
      clear hi hr hx1
      go_wp2_with (refine wpList_store_va rfl rfl (.tmp 6) (.tmp 68) rfl g rfl Key.nul rfl h4 ?_; intro Wa hba hga)
      exact ret_va hba rfl rfl rfl ⟨by rw [HV.out], below_of_grown HB7.out hga (by omega) HB7.out.size⟩
    · have hx1b : (x.k == 1) = false := by simp [hx1]
      by_cases hx2 : x.k = 2
      · have hy2 : (y.k == 2) = false := by simp; exact fun e => hr ⟨hx2, e⟩
        rw [hx2] at c0
        clear hi hr hx1 hx2 hx1b
        go_wp2_with (refine wpList_store_va rfl rfl (.tmp 6) (.tmp 68) rfl g rfl Key.nul rfl h4 ?_; intro Wa hba hga)
        exact ret_va hba rfl rfl rfl ⟨by rw [HV.out], below_of_grown HB7.out hga (by omega) HB7.out.size⟩
      · have hx2b : (x.k == 2) = false := by simp [hx2]
        clear hi hr hx1 hx2
        go_wp2_with (refine wpList_store_va rfl rfl (.tmp 6) (.tmp 68) rfl g rfl Key.nul rfl h4 ?_; intro Wa hba hga)
        exact ret_va hba rfl rfl rfl ⟨by rw [HV.out], below_of_grown HB7.out hga (by omega) HB7.out.size⟩
set_option maxRecDepth 100000 in
set_option maxHeartbeats 4000000 in
theorem vneg_any (w : World) (a : Va) (ha : a.ok) : Calls Tryz.prog 61 #[a.v] w (RetV w (Ev.negV a)) := by
  have HA := Lib.hid ha
  have HXO := Lib.hid (Ev.clean_ok ha)
  have HZO : Hid (Va.ok ⟨1, 0, 0, []⟩) := ⟨by show (-9223372036854775808 : Int) ≤ 1; decide, by show (1 : Int) ≤ 9223372036854775807; decide, by show (-9223372036854775808 : Int) ≤ 0; decide, by show (0 : Int) ≤ 9223372036854775807; decide, by show 0 < 18446744073709551616; decide⟩
  clear ha
  go_enter Tryz.func61, Tryz.ntmps61
  go_upto_region 1 with (first | (refine wpList_box_va rfl (.tmp 0) rfl a rfl ?_; intro W1 hb1 hz1 hB1) | (refine wpList_alloc_va rfl rfl ?_; intro W2 hb2 hz2 hB2))
  have h1 := hb1.below hB2
  have h4 := hb2
  have HB2 := Lib.hid (hB1.then hB2)
  have hw1 : w.heap.size < W1.heap.size := by omega
  clear hb1 hb2 hB1 hB2 hz1 hz2
  generalize W1.heap.size = g at h4 hw1 ⊢
  go_wp2_with (refine wpList_load_va rfl (.tmp 1) rfl w.heap.size rfl h1 ?_)
  refine (clean_any _ a HA.out).mono ?_
  rintro e W3 ⟨rfl, hB3⟩
  have h1 := h1.below hB3
  have h4 := h4.below hB3
  have HB3 := Lib.hid (HB2.out.then hB3)
  clear hB3 HB2 HA
  have HVV : Hid (Ev.negV a = if (Key.clean a).k = 2 then ⟨2, 0, Key.real1 (Ev.fneg (Key.clean a).f), []⟩ else if (Key.clean a).k = 1 then Ev.intV (Ev.fit (0 - (Key.clean a).n)) else Key.nul) := rfl
  have hcc := Ev.clean_clean a
  generalize Key.clean a = x at HXO HVV hcc ⊢
  have HCC := Lib.hid hcc
  clear hcc
  go_upto_region 2 with (refine wpList_store_va rfl rfl (.tmp 1) (.tmp 4) rfl w.heap.size rfl x rfl h1 ?_; intro W4 hb4 hg4)
  have h4 := h4.grown hg4 (by simp; omega)
  have HB4 := Lib.hid (below_of_grown HB3.out hg4 (Nat.le_refl _) HB3.out.size)
  clear hg4 HB3
  obtain ⟨c0, c1, c2, c3, -⟩ := Blk.c4 hb4
  clear c3 c1
  by_cases k2 : x.k = 2
  · have HV1 : Hid (Ev.negV a = ⟨2, 0, Key.real1 (Ev.fneg x.f), []⟩) := by show _ = _; rw [HVV.out, if_pos k2]
    have hneg := fun w => run_fneg w x.f (by rw [two64_eq]; exact HXO.out.f1)
    have hnl : Ev.fneg x.f < two64 := by have := HXO.out.f1; unfold Ev.fneg; rw [two64_eq]; split <;> omega
    rw [k2] at c0
    clear k2 HVV
    have HNL := Lib.hid hnl
    clear hnl
    generalize Ev.fneg x.f = r at HV1 hneg HNL
    go_wp2_with fail
    refine (ofreal_any _ r HNL.out).mono ?_
    rintro e W6 ⟨rfl, hB6⟩
    have h4 := h4.below hB6
    have HB6 := Lib.hid (HB4.out.then hB6)
    clear hB6 c0 c2 hneg hb4
    generalize Key.real1 r = q at HV1 ⊢
    go_wp2_with (refine wpList_store_va rfl rfl (.tmp 2) (.tmp 11) rfl g rfl ⟨2, 0, q, []⟩ rfl h4 ?_; intro Wa hba hga)
    exact ret_va hba rfl rfl rfl ⟨by rw [HV1.out], below_of_grown HB6.out hga (by omega) HB6.out.size⟩
  · have HV : Hid (Ev.negV a = Ev.arithV [45] ⟨1, 0, 0, []⟩ x) := by
      show _ = _
      rw [HVV.out, if_neg k2]
      unfold Ev.arithV
      rw [HCC.out, show Key.clean ⟨1, 0, 0, []⟩ = ⟨1, 0, 0, []⟩ from rfl]
      simp only [true_and]
      rw [if_neg (show ¬ ((1 : Int) = 2 ∧ x.k = 2) from fun h => by have := h.1; omega)]
      rfl
    have k2b : (x.k == 2) = false := by simp [k2]
    clear k2 HVV
    go_upto_region 4 with fail
    clear c0 c2
    have hb4 := hb4.drew
    have h4 := h4.drew
    refine wp_region_plan (.take 1 (.run 0 [1] (.run 2 [] (.run 3 [] .fin)))) (by kernel_rfl) (by kernel_rfl) (by kernel_rfl) (by kernel_rfl) ?_
    repeat' (first | (refine hZ _ _ ?_; clear hZ) | (refine hZ _ ?_; clear hZ) | (refine hZ ?_; clear hZ) | rw [again_nil] | rw [walk_fin] | ((first | rw [walk_take] | rw [walk_run] | rw [again_cons]); intro Z hZ; simp only [sel, List.getElem?_toArray, List.getElem?_cons_zero, List.getElem?_cons_succ]; go_wp2_with (first | (refine wpList_load_va rfl (.tmp 1) rfl w.heap.size rfl hb4 ?_))))
    refine (ofint_any _ 0).mono ?_
    rintro e W5 ⟨rfl, hB5⟩
    have hb4 := hb4.below hB5
    have h4 := h4.below hB5
    have HB5 := Lib.hid (HB4.out.drewR.trans (hB5.mono HB4.out.size))
    clear hB5 HB4
    go_wp2_with fail
    repeat' (first | (refine hZ _ _ ?_; clear hZ) | (refine hZ _ ?_; clear hZ) | (refine hZ ?_; clear hZ) | rw [again_nil] | rw [walk_fin] | ((first | rw [walk_take] | rw [walk_run] | rw [again_cons]); intro Z hZ; simp only [sel, List.getElem?_toArray, List.getElem?_cons_zero, List.getElem?_cons_succ]; go_wp2_with (first | (refine wpList_load_va rfl (.tmp 1) rfl w.heap.size rfl hb4 ?_))))
    refine (varith_any _ [45] ⟨1, 0, 0, []⟩ x HZO.out HXO.out).mono ?_
    rintro e W6 ⟨rfl, hB6⟩
    have h4 := h4.below hB6
    have HB6 := Lib.hid (HB5.out.then hB6)
    clear hB6
    rw [← HV.out]
    generalize hd : Ev.negV a = d
    have HD := Lib.hid hd
    clear hd
    go_wp2_with fail
    repeat' (first | (refine hZ _ _ ?_; clear hZ) | (refine hZ _ ?_; clear hZ) | (refine hZ ?_; clear hZ) | rw [again_nil] | rw [walk_fin] | ((first | rw [walk_take] | rw [walk_run] | rw [again_cons]); intro Z hZ; simp only [sel, List.getElem?_toArray, List.getElem?_cons_zero, List.getElem?_cons_succ]; go_wp2_with (refine wpList_store_va rfl rfl (.tmp 2) (.tmp 14) rfl g rfl d rfl h4 ?_; intro Wa hba hga)))
    go_wp2_with fail
    exact ret_va hba rfl rfl rfl ⟨by rw [HD.out], below_of_grown HB6.out hga (by omega) HB6.out.size⟩
end Go.Proofs.YtpahkaffknnjhaaGreatDoor
end

