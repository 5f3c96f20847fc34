/-
  Texts of a proof, one behind the other (each with its own head).
-/
import Derived.Test.YtknfnhmkiooifaaDoorPartClblbiohi
import Derived.Lib.Bytes
import Derived.Deep.Slices
import Derived.Deep.SlicePairs
import Derived.OpenShut
import Derived.ChangeSlices
import Derived.SliceStrings
section
/-
  The contract of key.Part.
-/
namespace Go.Proofs.YtknfnhmkiooifaaDoor
set_option linter.unusedSimpArgs false
set_option linter.unusedVariables false
open Go.RowKit

theorem max_xor {f : Nat} (h : f < 18446744073709551616) : 18446744073709551615 ^^^ f = 18446744073709551615 - f := by
  have e1 : (18446744073709551615 : Nat) = 2 ^ 64 - 1 := by decide
  have e2 : 18446744073709551615 - f = 2 ^ 64 - (f + 1) := by
    have : (2 : Nat) ^ 64 = 18446744073709551616 := by decide
    omega
  rw [e2, e1]
  apply Nat.eq_of_testBit_eq
  intro i
  rw [Nat.testBit_xor, Nat.testBit_two_pow_sub_one, Nat.testBit_two_pow_sub_succ h]
  by_cases hi : i < 64
  · simp [hi]
  · have : f.testBit i = false := Nat.testBit_lt_two_pow (Nat.lt_of_lt_of_le (show f < 2 ^ 64 from h) (Nat.pow_le_pow_right (by decide) (Nat.le_of_not_lt hi)))
    simp [hi, this]
theorem not_u64 {f : Nat} (h : f < 18446744073709551616) : Go.Op.unary .xor (.int .u64 (f : Int)) = pure (.int .u64 ((18446744073709551615 - f : Nat) : Int)) := by
  have h1 := u64_xor_nat 18446744073709551615 f (by decide) h
  rw [max_xor h] at h1
  rw [← h1]
  rfl
set_option maxRecDepth 20000 in
set_option maxHeartbeats 1000000 in
theorem kbits_any (w : World) (f : Nat) (hf : f < two64) : Calls Tryd.prog 65 #[.float .f64 f] w fun e w' => e = .returned (.int .u64 (Key.kbits f : Nat)) ∧ w' = w := by
  have HF := Lib.hid hf
  have h1 : (f : Int) < 18446744073709551616 := by have := two64_eq; omega
  go_enter Tryd.func65, Tryd.ntmps65
  have hx : (Extern.MathFloatBits.float64bits #[.float .f64 f]).run Tryd.prog w = .ok (.int .u64 (f : Int)) w := rfl
  go_wp2_with fail
  rw [run_callFunc_extern Tryd.func84 (by kernel_rfl) (by kernel_rfl) (by kernel_rfl) (e := Extern.MathFloatBits.float64bits) (by kernel_rfl), hx]
  simp only [Result.andThen]
  rw [Oper.upon_value]
  have hun := not_u64 (show f < 18446744073709551616 from hf)
  by_cases ht : 9223372036854775808 ≤ f
  · have hi : (9223372036854775808 : Int) ≤ (f : Int) := by omega
    have HK : Hid (Key.kbits f = 18446744073709551615 - f) := by show _ = _; unfold Key.kbits; rw [if_pos ht]
    clear ht hf
    generalize 18446744073709551615 - f = m at hun HK
    go_wp2_with fail
    go_ret
    exact ⟨by rw [HK.out]; rfl, rfl⟩
  · have hi : ¬ (9223372036854775808 : Int) ≤ (f : Int) := by omega
    have HK : Hid (Key.kbits f = f + 9223372036854775808) := by show _ = _; unfold Key.kbits; rw [if_neg ht]
    have HO := Lib.hid (u64_or_nat f 9223372036854775808 hf (by decide))
    have HT := Lib.hid (or_top (n := f) (by omega))
    clear ht hf hun
    go_wp2_with fail
    go_ret
    refine ⟨?_, rfl⟩
    show Ending.returned (.int .u64 (Go.bits .or .u64 (f : Int) 9223372036854775808)) = _
    rw [show (9223372036854775808 : Int) = ((9223372036854775808 : Nat) : Int) from rfl, HO.out, HT.out, HK.out]

theorem run_str_bytes2 (w : World) (l : List UInt8) : ∃ c W, (convert 9 30 (txt l)).run Tryd.prog w = .ok (.slice (some ⟨w.heap.size, 0, none⟩) l.length c) W ∧ BRow W (some ⟨w.heap.size, 0, none⟩) l ∧ Below w.heap.size w W ∧ w.heap.size < W.heap.size ∧ l.length ≤ c ∧ ∀ j, j < l.length → W.frozen? ⟨w.heap.size, j, none⟩ = false := by
  have h := run_bytes_of_string (P := Tryd.prog) w 9 30 5 ⟨l.toArray⟩ Tryd.underlying9 Tryd.underlying30 Tryd.underlying5
  have hs : (ByteArray.mk l.toArray).size = l.length := by simp [ByteArray.size]
  rw [hs] at h
  have hge := grownCap_ge w l.length 0 5
  generalize hC : grownCap w l.length 0 5 = cap at h hge
  clear hC
  have hB : bytesRow ⟨l.toArray⟩ cap = (l.map bv ++ List.replicate (cap - l.length) (Value.int .u8 0)).toArray := by
    unfold bytesRow
    rw [hs]
    apply Array.ext'
    simp [bv]
  refine ⟨cap, _, h, ?_, (Below.refl _ w).drewR.alloc (Nat.le_refl _) _, by simp [World.alloc], hge, fun j hj => ?_⟩
  · intro hl
    refine ⟨w.heap.size, 0, rfl, by simp [World.alloc], fun j hj => ?_⟩
    have hjl : j < l.length := by simpa using hj
    unfold World.cell? World.alloc
    have hd : w.drew.heap = w.heap := rfl
    simp [hB, hd]
    rw [List.getElem?_append_left (by simpa using hjl)]
    simp [hjl]
  · unfold World.frozen? World.alloc
    have hd : w.drew.heap = w.heap := rfl
    simp [hB, hd]
    omega
set_option maxRecDepth 20000 in
set_option maxHeartbeats 1000000 in
theorem breplaceall_any (w : World) (A B C : Option Addr) (c d k : Nat) (l : List UInt8) (hr : BRow w A l) (hs : BRow w B [0]) (hy : BRow w C [0, 255]) (hl : l.length ≤ 1000000) (hlc : l.length ≤ c) :
    Calls Tryd.prog 66 #[.slice A l.length c, .slice B 1 d, .slice C 2 k] w (RetB w (Key.esc l)) := by
  have HC := Lib.hid (breplace_any w A B C c d k l hr hs hy hl hlc)
  go_enter Tryd.func66, Tryd.ntmps66
  go_wp2_with fail
  refine HC.out.mono ?_
  rintro e w1 ⟨A1, c1, rfl, ho, hb⟩
  go_wp2_with fail
  go_ret
  exact ⟨A1, c1, rfl, ho, hb⟩
theorem ret_lit {w W : World} {l : List UInt8} (h : BRow W (some ⟨w.heap.size, 0, none⟩) l) (hb : Below w.heap.size w W) : RetR w l (.returned (.slice (some ⟨w.heap.size, 0, none⟩) l.length l.length)) W := ⟨_, _, rfl, h, Nat.le_refl _, hb⟩
set_option maxRecDepth 20000 in
set_option maxHeartbeats 4000000 in
theorem part_any (w : World) (v : Va) (hv : v.ok) (hs : v.s.length ≤ 1000) : Calls Tryd.prog 28 #[v.v] w (RetR w (Key.part (Key.clean v))) := by
  have HV := Lib.hid hv
  have HVC := Lib.hid (Key.clean_ok hv)
  have HS := Lib.hid hs
  clear hv hs
  go_enter Tryd.func28, Tryd.ntmps28
  go_upto_region 1 with (refine wpList_box_va rfl (.tmp 0) rfl v rfl ?_; intro W1 hb1 hz1 hB1)
  go_wp2_with (refine wpList_load_va rfl (.tmp 1) rfl w.heap.size rfl hb1 ?_)
  refine (clean_any _ v HV.out).mono ?_
  rintro e w2 ⟨rfl, hB2⟩
  have hb2 := hb1.below hB2
  have hB2' := hB1.trans (hB2.mono hB1.size)
  have hz2 := hB2.size
  clear hb1 hB1 hB2
  go_upto_region 2 with (refine wpList_store_va rfl rfl (.tmp 1) (.tmp 5) rfl w.heap.size rfl (Key.clean v) rfl hb2 ?_; intro w3 hb3 hg3)
  have hB3 := below_of_grown hB2' hg3 (Nat.le_refl _) (by omega)
  have hz3 := hg3.size
  clear hB2' hg3 hb2
  obtain ⟨c0, c1, c2, c3, -, -, -, -, hlt⟩ := Blk.c4 hb3
  have HB3 := Lib.hid hB3
  clear hB3 hb3
  by_cases k1 : v.k = 1
  · have HC := Lib.hid (Va.clean1 k1)
    simp only [HC.out] at c0 c1 c2 c3
    go_wp2_with fail
    rw [id_xor HV.out.n1 HV.out.n2]
    have HL : Hid (Key.idn v.n < two64) := Key.idn_lt HV.out.n1 HV.out.n2
    have H4 : Hid (BRow (w3.alloc (.cells #[.int .u8 1] 5)) (some ⟨w3.heap.size, 0, none⟩) [1] ∧ Below w.heap.size w (w3.alloc (.cells #[.int .u8 1] 5))) := ⟨BRow.one _ _ _ _ rfl, HB3.out.trans ((Below.alloc1 w3 _).mono HB3.out.size)⟩
    have HP : Hid (Key.part (Key.clean v) = [1] ++ Wal.hi8 (Key.idn v.n)) := by show _ = _; rw [HC.out, Key.part_int rfl]; rfl
    clear c0 c1 c2 c3 hlt
    generalize World.alloc w3 _ = w4 at H4 ⊢
    refine (khigh_any _ _ HL.out).mono ?_
    rintro e w5 ⟨A5, c5, rfl, hr5, -, hb5⟩
    have H5 := Lib.hid (And.intro (H4.out.1.below hb5) (And.intro (H4.out.2.trans (hb5.mono H4.out.2.size)) hr5))
    clear hr5 hb5 H4
    go_wp2_with fail
    refine (bconcat2 _ _ _ ⟨some ⟨w3.heap.size, 0, none⟩, 1, [1]⟩ ⟨A5, c5, Wal.hi8 (Key.idn v.n)⟩ (Row.new _ _ _) ⟨H5.out.1.alloc _, ?_⟩ ⟨H5.out.2.2.alloc _, ?_⟩ ?_).mono ?_
    · show 1 ≤ _; decide
    · simp [Wal.hi8_length]
    · simp [Wal.hi8_length]
    rintro e w6 ⟨A6, c6, rfl, ho6, hb6⟩
    go_wp2_with fail
    go_ret
    refine ⟨A6, c6, ?_, ?_, ?_, ?_⟩
    · rw [HP.out]; rfl
    · rw [HP.out]; exact ho6.row
    · rw [HP.out]; exact ho6.cap
    · exact H5.out.2.1.trans (((Below.alloc1 w5 _).then hb6).mono H5.out.2.1.size)
  by_cases k2 : v.k = 2
  · have HC := Lib.hid (Va.clean2 k2)
    simp only [HC.out] at c0 c1 c2 c3
    have HF : Hid (Key.real1 v.f < two64) := Key.real1_lt HV.out.f1
    generalize hf : Key.real1 v.f = f at HC HF c0 c1 c2 c3
    have HFF := Lib.hid hf
    clear hf
    go_wp2_with fail
    refine (isnan_any _ f HF.out).mono ?_
    rintro e wq ⟨rfl, hwq⟩
    rw [hwq]
    clear hwq wq
    by_cases hn : fnan f
    · have hd : decide (fnan f) = true := by simp [hn]
      have HP : Hid (Key.part (Key.clean v) = [1] ++ Wal.hi8 18446744073709551615) := by show _ = _; rw [HC.out, Key.part_real rfl]; unfold Key.pbits; rw [if_pos hn]; rfl
      rw [hd]
      clear hd hn
      go_wp2_with fail
      have H4 : Hid (BRow (w3.alloc (.cells #[.int .u8 1] 5)) (some ⟨w3.heap.size, 0, none⟩) [1] ∧ Below w.heap.size w (w3.alloc (.cells #[.int .u8 1] 5))) := ⟨BRow.one _ _ _ _ rfl, HB3.out.trans ((Below.alloc1 w3 _).mono HB3.out.size)⟩
      clear c0 c1 c2 c3 hlt
      generalize World.alloc w3 _ = w4 at H4 ⊢
      refine (khigh_any _ 18446744073709551615 (by decide)).mono ?_
      rintro e w5 ⟨A5, c5, rfl, hr5, -, hb5⟩
      have H5 := Lib.hid (And.intro (H4.out.1.below hb5) (And.intro (H4.out.2.trans (hb5.mono H4.out.2.size)) hr5))
      clear hr5 hb5 H4
      go_wp2_with fail
      refine (bconcat2 _ _ _ ⟨some ⟨w3.heap.size, 0, none⟩, 1, [1]⟩ ⟨A5, c5, Wal.hi8 18446744073709551615⟩ (Row.new _ _ _) ⟨H5.out.1.alloc _, ?_⟩ ⟨H5.out.2.2.alloc _, ?_⟩ ?_).mono ?_
      · show 1 ≤ _; decide
      · simp [Wal.hi8_length]
      · simp [Wal.hi8_length]
      rintro e w6 ⟨A6, c6, rfl, ho6, hb6⟩
      go_wp2_with fail
      go_ret
      refine ⟨A6, c6, ?_, ?_, ?_, ?_⟩
      · rw [HP.out]; rfl
      · rw [HP.out]; exact ho6.row
      · rw [HP.out]; exact ho6.cap
      · exact H5.out.2.1.trans (((Below.alloc1 w5 _).then hb6).mono H5.out.2.1.size)
    · have hd : decide (fnan f) = false := by simp [hn]
      have HP : Hid (Key.part (Key.clean v) = [1] ++ Wal.hi8 (Key.kbits f)) := by show _ = _; rw [HC.out, Key.part_real rfl]; unfold Key.pbits; rw [if_neg hn]; rfl
      have HK : Hid (Key.kbits f < two64) := Nat.lt_trans (Key.kbits_max HF.out hn) (by decide)
      rw [hd]
      clear hd hn
      go_wp2_with fail
      refine (kbits_any _ f HF.out).mono ?_
      rintro e wq ⟨rfl, hwq⟩
      rw [hwq]
      clear hwq
      go_wp2_with fail
      have H4 : Hid (BRow (w3.alloc (.cells #[.int .u8 1] 5)) (some ⟨w3.heap.size, 0, none⟩) [1] ∧ Below w.heap.size w (w3.alloc (.cells #[.int .u8 1] 5))) := ⟨BRow.one _ _ _ _ rfl, HB3.out.trans ((Below.alloc1 w3 _).mono HB3.out.size)⟩
      clear c0 c1 c2 c3 hlt
      generalize World.alloc w3 _ = w4 at H4 ⊢
      refine (khigh_any _ _ HK.out).mono ?_
      rintro e w5 ⟨A5, c5, rfl, hr5, -, hb5⟩
      have H5 := Lib.hid (And.intro (H4.out.1.below hb5) (And.intro (H4.out.2.trans (hb5.mono H4.out.2.size)) hr5))
      clear hr5 hb5 H4
      go_wp2_with fail
      refine (bconcat2 _ _ _ ⟨some ⟨w3.heap.size, 0, none⟩, 1, [1]⟩ ⟨A5, c5, Wal.hi8 (Key.kbits f)⟩ (Row.new _ _ _) ⟨H5.out.1.alloc _, ?_⟩ ⟨H5.out.2.2.alloc _, ?_⟩ ?_).mono ?_
      · show 1 ≤ _; decide
      · simp [Wal.hi8_length]
      · simp [Wal.hi8_length]
      rintro e w6 ⟨A6, c6, rfl, ho6, hb6⟩
      go_wp2_with fail
      go_ret
      refine ⟨A6, c6, ?_, ?_, ?_, ?_⟩
      · rw [HP.out]; rfl
      · rw [HP.out]; exact ho6.row
      · rw [HP.out]; exact ho6.cap
      · exact H5.out.2.1.trans (((Below.alloc1 w5 _).then hb6).mono H5.out.2.1.size)
  by_cases k3 : v.k = 3
  · have HC := Lib.hid (Va.clean3 k3)
    have HP : Hid (Key.part (Key.clean v) = [1] ++ (Key.esc v.s ++ [0, 0])) := by show _ = _; rw [HC.out, Key.part_text rfl]; rfl
    simp only [HC.out] at c0 c1 c2 c3
    obtain ⟨cb, Wb, hcvb, hrb, hbb, -, hcb, -⟩ := run_str_bytes2 w3 v.s
    have HEL : Hid ((Key.esc v.s).length ≤ 2000) := Nat.le_trans (Key.esc_length v.s) (by have := HS.out; omega)
    go_wp2_with fail
    clear c0 c1 c2 c3 hlt hcvb
    have h1 : BRow (Wb.alloc (.cells #[.int .u8 0] 5)) (some ⟨Wb.heap.size, 0, none⟩) [0] := BRow.one _ _ _ _ rfl
    have h2 := (hrb.alloc (.cells #[.int .u8 0] 5))
    have hB1 : Below w.heap.size w (Wb.alloc (.cells #[.int .u8 0] 5)) := HB3.out.trans ((hbb.trans ((Below.alloc1 Wb _).mono hbb.size)).mono HB3.out.size)
    have hz1 : (Wb.alloc (.cells #[.int .u8 0] 5)).heap.size = Wb.heap.size + 1 := by simp
    rw [← hz1]
    generalize World.alloc Wb _ = w5 at h1 h2 hB1 hz1 ⊢
    have h3 : BRow (w5.alloc (.cells #[.int .u8 0, .int .u8 255] 5)) (some ⟨w5.heap.size, 0, none⟩) [0, 255] := Row.new w5 ([0, 255].map bv) _
    have H6 := Lib.hid (And.intro (h2.alloc (.cells #[.int .u8 0, .int .u8 255] 5)) (And.intro (h1.alloc (.cells #[.int .u8 0, .int .u8 255] 5)) (And.intro h3 (hB1.trans ((Below.alloc1 w5 (.cells #[.int .u8 0, .int .u8 255] 5)).mono hB1.size)))))
    clear h1 h2 h3 hB1 hrb hbb
    generalize World.alloc w5 _ = w6 at H6 ⊢
    refine (breplaceall_any w6 _ _ _ cb 1 2 v.s H6.out.1 H6.out.2.1 H6.out.2.2.1 (Nat.le_trans HS.out (by decide)) hcb).mono ?_
    rintro e w7 ⟨A7, c7, rfl, ho7, hb7⟩
    have H7 := Lib.hid (And.intro ho7.row (And.intro ho7.cap (H6.out.2.2.2.trans (hb7.mono H6.out.2.2.2.size))))
    clear ho7 hb7 H6
    go_wp2_with fail
    have h1 : BRow (w7.alloc (.cells #[.int .u8 1] 5)) (some ⟨w7.heap.size, 0, none⟩) [1] := BRow.one _ _ _ _ rfl
    have h2 := H7.out.1.alloc (.cells #[.int .u8 1] 5)
    have hB1 : Below w.heap.size w (w7.alloc (.cells #[.int .u8 1] 5)) := H7.out.2.2.trans ((Below.alloc1 w7 _).mono H7.out.2.2.size)
    have hz1 : (w7.alloc (.cells #[.int .u8 1] 5)).heap.size = w7.heap.size + 1 := by simp
    rw [← hz1]
    generalize World.alloc w7 _ = w8 at h1 h2 hB1 hz1 ⊢
    have h3 : BRow (w8.alloc (.cells #[.int .u8 0, .int .u8 0] 5)) (some ⟨w8.heap.size, 0, none⟩) [0, 0] := Row.new w8 ([0, 0].map bv) _
    have hz2 : (w8.alloc (.cells #[.int .u8 0, .int .u8 0] 5)).heap.size = w8.heap.size + 1 := by simp
    have H8 := Lib.hid (And.intro (h1.alloc (.cells #[.int .u8 0, .int .u8 0] 5)) (And.intro (h2.alloc (.cells #[.int .u8 0, .int .u8 0] 5)) (And.intro h3 (hB1.trans ((Below.alloc1 w8 (.cells #[.int .u8 0, .int .u8 0] 5)).mono hB1.size)))))
    clear h1 h2 h3 hB1
    rw [← hz2]
    generalize World.alloc w8 _ = w9 at H8 hz2 ⊢
    refine (bconcat3 _ _ _ ⟨some ⟨w7.heap.size, 0, none⟩, 1, [1]⟩ ⟨A7, c7, Key.esc v.s⟩ ⟨some ⟨w8.heap.size, 0, none⟩, 2, [0, 0]⟩ (Row.new _ _ _) ⟨H8.out.1.alloc _, ?_⟩ ⟨H8.out.2.1.alloc _, ?_⟩ ⟨H8.out.2.2.1.alloc _, ?_⟩ ?_).mono ?_
    · show 1 ≤ _; decide
    · have := HEL.out; show (Key.esc v.s).length ≤ 9223372036854775807; omega
    · show 2 ≤ _; decide
    · have := HEL.out; show 1 + (Key.esc v.s).length + 2 ≤ _; omega
    rintro e w10 ⟨A10, c10, rfl, ho10, hb10⟩
    go_wp2_with fail
    go_ret
    refine ⟨A10, c10, ?_, ?_, ?_, ?_⟩
    · have hl3 : ([1] ++ (Key.esc v.s ++ [0, 0]) : List UInt8).length = (Key.esc v.s).length + 2 + 1 := by simp
      rw [HP.out, hl3]; rfl
    · rw [HP.out]; exact ho10.row
    · rw [HP.out]; exact ho10.cap
    · exact H8.out.2.2.2.trans (((Below.alloc1 w9 _).then hb10).mono H8.out.2.2.2.size)
  by_cases k4 : v.k = 4
  · by_cases hn : v.n = 0
    · have HC : Hid (Key.clean v = ⟨4, 0, 0, []⟩) := by show _ = _; rw [Va.clean4 k4, if_pos hn]
      have HP : Hid (Key.part (Key.clean v) = [1, 0]) := by show _ = _; rw [HC.out, Key.part_bool rfl]; rfl
      simp only [HC.out] at c0 c1 c2 c3
      clear hn
      go_wp2_with fail
      go_ret
      refine ⟨some ⟨w3.heap.size, 0, none⟩, 2, ?_, ?_, ?_, HB3.out.trans ((Below.alloc1 w3 _).mono HB3.out.size)⟩
      · rw [HP.out]; rfl
      · rw [HP.out]; exact Row.new w3 (([1, 0] : List UInt8).map bv) _
      · rw [HP.out]; exact Nat.le_refl _
    · have HC : Hid (Key.clean v = ⟨4, 1, 0, []⟩) := by show _ = _; rw [Va.clean4 k4, if_neg hn]
      have HP : Hid (Key.part (Key.clean v) = [1, 1]) := by show _ = _; rw [HC.out, Key.part_bool rfl]; rfl
      simp only [HC.out] at c0 c1 c2 c3
      clear hn
      go_wp2_with fail
      go_ret
      refine ⟨some ⟨w3.heap.size, 0, none⟩, 2, ?_, ?_, ?_, HB3.out.trans ((Below.alloc1 w3 _).mono HB3.out.size)⟩
      · rw [HP.out]; rfl
      · rw [HP.out]; exact Row.new w3 (([1, 1] : List UInt8).map bv) _
      · rw [HP.out]; exact Nat.le_refl _
  · have HC := Lib.hid (Va.clean0 k1 k2 k3 k4)
    have HP : Hid (Key.part (Key.clean v) = [0]) := by show _ = _; rw [HC.out, Key.part_null rfl]
    simp only [HC.out] at c0 c1 c2 c3
    go_wp2_with fail
    go_ret
    refine ⟨some ⟨w3.heap.size, 0, none⟩, 1, ?_, ?_, ?_, HB3.out.trans ((Below.alloc1 w3 _).mono HB3.out.size)⟩
    · rw [HP.out]; rfl
    · rw [HP.out]; exact Row.new w3 (([0] : List UInt8).map bv) _
    · rw [HP.out]; exact Nat.le_refl _
end Go.Proofs.YtknfnhmkiooifaaDoor
end

section
/-
  The contract of key.Key, and the laws' first lines.
-/
namespace Go.Proofs.YtknfnhmkiooifaaDoor
set_option linter.unusedSimpArgs false
set_option linter.unusedVariables false
open Go.RowKit

/-- Values as a law's walk holds them: few, of short texts. -/
structure Few (L : List Va) : Prop where
  len : L.length ≤ 1000
  ok : ∀ v ∈ L, v.ok
  short : ∀ v ∈ L, v.s.length ≤ 1000
theorem part_len (v : Va) (h : v.s.length ≤ 1000) : (Key.part (Key.clean v)).length ≤ 2003 := by
  have he := Key.esc_length v.s
  by_cases k1 : v.k = 1
  · rw [Va.clean1 k1, Key.part_int rfl]; simp [Key.id_length]
  by_cases k2 : v.k = 2
  · rw [Va.clean2 k2, Key.part_real rfl]; simp [Wal.hi8_length]
  by_cases k3 : v.k = 3
  · rw [Va.clean3 k3, Key.part_text rfl]; simp; omega
  by_cases k4 : v.k = 4
  · rw [Va.clean4 k4, Key.part_bool rfl]; simp
  · rw [Va.clean0 k1 k2 k3 k4, Key.part_null rfl]; simp
theorem key_len (L : List Va) (h : ∀ v ∈ L, v.s.length ≤ 1000) : (Key.key L).length ≤ 2003 * L.length := by
  induction L with
  | nil => simp [Key.key]
  | cons v L ih =>
    have h1 := part_len v (h v (by simp))
    have h2 := ih fun u hu => h u (by simp [hu])
    unfold Key.key at h2 ⊢
    rw [List.flatMap_cons, List.length_append, List.length_cons]
    omega
/-- A value of a row is loaded. -/
theorem wpList_load_va_at {w : World} {ops : Array Oper} {rest : List Oper} {o : Oper} {a : Act} {Q : Exit → Act → World → Prop} (hgd : o.guard = none) (x : Operand) (hop : o.op = .load 27 x) {b off : Nat} {L : List Va} (hr : ERow eVa w (some ⟨b, off, none⟩) L) {j : Nat} (hj : j < L.length) (hx : a.eval x = .pointer (some ⟨b, off + j * 4, none⟩))
    (h : wpList Tryd.prog ops Q rest (a.put o.dst L[j].v) w) : wpList Tryd.prog ops Q (o :: rest) a w :=
  wpList_load_va_row hgd x hop hr hj (fun b' o' e => by
    have e' := Option.some.inj e
    simp only [Addr.mk.injEq, and_true] at e'
    rw [hx, e'.1, e'.2]) h
theorem key_snoc (L : List Va) (k : Nat) (hk : k < L.length) : Key.key (L.take (k + 1)) = Key.key (L.take k) ++ Key.part (Key.clean L[k]) := by
  rw [List.take_succ_eq_append_getElem hk]
  unfold Key.key
  rw [List.flatMap_append]
  simp
set_option maxRecDepth 20000 in
set_option maxHeartbeats 4000000 in
theorem key_any (w : World) (A : Option Addr) (c : Nat) (L : List Va) (hr : ERow eVa w A L) (hL : Few L) : Calls Tryd.prog 13 #[.slice A L.length c] w (RetB w (Key.key L)) := by
  have HR := Lib.hid hr
  have HL := Lib.hid hL
  have hn := hL.len
  clear hr hL
  go_enter Tryd.func13, Tryd.ntmps13
  have hoe : BOwn (w.alloc (.cells #[] 5)) w.heap.size (some ⟨w.heap.size, 0, none⟩) 0 [] := BOwn.new w [] (by simp) (Nat.le_refl _)
  go_wp2_with fail
  have HI : Hid (BOwn (w.alloc (.cells #[] 5)) w.heap.size (some ⟨w.heap.size, 0, none⟩) 0 (Key.key (L.take 0)) ∧ Below w.heap.size w (w.alloc (.cells #[] 5))) := ⟨hoe, Below.alloc1 _ _⟩
  clear hoe
  generalize World.alloc w _ = W at HI ⊢
  go_loopw [3, 9] (fun bv_ iv wr => ∃ (k : Nat) (A1 : Option Addr) (c1 : Nat), k ≤ L.length ∧ bv_ = .slice A1 (Key.key (L.take k)).length c1 ∧ iv = .int .i64 (k : Int) ∧ Hid (BOwn wr w.heap.size A1 c1 (Key.key (L.take k)) ∧ Below w.heap.size w wr)) (fun _ iv _ => L.length - (intOf iv).toNat)
  case atStart => exact ⟨0, _, _, Nat.zero_le _, rfl, rfl, HI.out⟩
  case round =>
    obtain ⟨k, A1, c1, hk, rfl, rfl, HJ⟩ := hrel
    clear HI
    by_cases hlt : k < L.length
    · have hii : (k : Int) < (L.length : Int) := by omega
      obtain ⟨b, o, rfl, hb, -⟩ := HR.out.at_ hlt
      have hok := Lib.hid (HL.out.ok _ (List.getElem_mem hlt))
      have hsh := Lib.hid (HL.out.short _ (List.getElem_mem hlt))
      have HRW := Lib.hid (HR.out.below HJ.out.2)
      have HS := Lib.hid (key_snoc L k hlt)
      have HKL : Hid ((Key.key (L.take k)).length ≤ 2003000) := Nat.le_trans (key_len _ fun v hv => HL.out.short v (List.mem_of_mem_take hv)) (by rw [List.length_take]; omega)
      go_upto_region 5 with (first | (refine wpList_load_va_at rfl (.tmp 11) rfl HRW.out hlt rfl ?_) | (refine wpList_alloc_va rfl rfl ?_; intro W2 hb2 hz2 hB2) | (refine wpList_store_va rfl rfl (.tmp 5) (.tmp 12) rfl wr.heap.size rfl L[k] rfl hb2 ?_; intro W3 hb3 hg3))
      have hB3 : Below wr.heap.size wr W3 := below_of_grown hB2 hg3 (Nat.le_refl _) (by omega)
      have hz3 := hg3.size
      clear hb2 hz2 hB2 hg3
      go_wp2_with (refine wpList_load_va rfl (.tmp 5) rfl wr.heap.size rfl hb3 ?_)
      refine (part_any _ _ hok.out hsh.out).mono ?_
      rintro e W4 ⟨A4, c4, rfl, hr4, hc4, hB4⟩
      have HB : Hid (BOwn W4 w.heap.size A1 c1 (Key.key (L.take k)) ∧ Below w.heap.size w W4) := ⟨(HJ.out.1.below hB3).below hB4, HJ.out.2.trans ((hB3.trans (hB4.mono hB3.size)).mono HJ.out.2.size)⟩
      have H4 := Lib.hid hr4
      have HPL := Lib.hid (part_len L[k] hsh.out)
      clear hr4 hB4 hB3 hb3
      go_wp2_with (at_builtin; refine wpList_append_bytes rfl (.tmp 13) (.tmp 15) rfl _ rfl HB.out.1 rfl _ rfl H4.out rfl (by have := HKL.out; have := HPL.out; omega) HB.out.2.size ?_; intro A5 c5 W5 ho5 hb5 _ _)
      go_roundw
      case rel =>
        refine ⟨k + 1, A5, c5, by omega, ?_, by go_num, ?_⟩
        · rw [HS.out, List.length_append]
        · rw [HS.out]; exact ⟨ho5, HB.out.2.trans hb5⟩
      case measure => simp [intOf]; omega
    · obtain rfl : k = L.length := by omega
      have hlt2 : L.take L.length = L := List.take_length
      rw [hlt2] at HJ ⊢
      clear hlt2
      go_wp2_with fail
      go_ret
      exact ⟨A1, c1, rfl, HJ.out.1, HJ.out.2⟩

theorem key_lives : Key.key [⟨1, 1, 0, []⟩, ⟨0, 0, 0, []⟩, ⟨3, 0, 0, [97]⟩] = [1, 128, 0, 0, 0, 0, 0, 0, 1, 0, 1, 97, 0, 0] := by decide
set_option maxRecDepth 20000 in
set_option maxHeartbeats 4000000 in
theorem klives_any (w : World) : Calls Tryd.prog 9 #[] w fun e w' => e = .returned (.bool true) ∧ Below w.heap.size w w' := by
  have HF : Hid (Few [⟨1, 1, 0, []⟩, ⟨0, 0, 0, []⟩, ⟨3, 0, 0, [97]⟩]) := by
    refine ⟨by decide, ?_, ?_⟩
    · intro v hv
      simp only [List.mem_cons, List.not_mem_nil, or_false] at hv
      rcases hv with rfl | rfl | rfl <;> constructor <;> decide
    · intro v hv
      simp only [List.mem_cons, List.not_mem_nil, or_false] at hv
      rcases hv with rfl | rfl | rfl <;> decide
  have HK := Lib.hid key_lives
  go_enter Tryd.func9, Tryd.ntmps9
  go_wp2_with fail
  generalize hW : World.alloc w _ = W
  obtain ⟨ba, hz, hB⟩ := fresh1 (a := eVa.cells [⟨1, 1, 0, []⟩, ⟨0, 0, 0, []⟩, ⟨3, 0, 0, [97]⟩]) hW
  have hrow := ba.row eVa [⟨1, 1, 0, []⟩, ⟨0, 0, 0, []⟩, ⟨3, 0, 0, [97]⟩] rfl (by decide)
  clear hW ba
  refine (key_any W _ 3 [⟨1, 1, 0, []⟩, ⟨0, 0, 0, []⟩, ⟨3, 0, 0, [97]⟩] hrow HF.out).mono ?_
  rintro e w1 ⟨A1, c1, rfl, ho, hb⟩
  rw [HK.out] at ho ⊢
  have hsb : (convert 30 9 (.slice A1 14 c1)).run Tryd.prog w1 = .ok (.string ⟨#[1, 128, 0, 0, 0, 0, 0, 0, 1, 0, 1, 97, 0, 0]⟩) w1 := run_string_bytes w1 c1 ho.row
  have hB2 := Lib.hid (hB.trans (hb.mono hB.size))
  clear hrow ho hb hB hz
  go_wp2_with fail
  go_ret
  exact ⟨rfl, hB2.out⟩
end Go.Proofs.YtknfnhmkiooifaaDoor
end

section
/-
  The walk of dowserlaw08.KeyIDs: whatever the numbers and the bytes, it answers true.
-/
namespace Go.Proofs.YtknfnhmkiooifaaDoor
set_option linter.unusedSimpArgs false
set_option linter.unusedVariables false
open Go.RowKit

theorem txt_list (l : List UInt8) : (ByteArray.mk l.toArray).toList = l := by rw [Lib.toList_data]
theorem run_str_ne (l m : List UInt8) (w : World) : (binOp .neq 9 (txt l) (txt m)).run Tryd.prog w = .ok (.bool (!(l == m))) w := by
  unfold txt
  rw [binOp_string_neq, txt_list, txt_list]
  rfl
theorem run_str_eq (l m : List UInt8) (w : World) : (binOp .eql 9 (txt l) (txt m)).run Tryd.prog w = .ok (.bool (l == m)) w := by
  unfold txt
  rw [binOp_string_eql, txt_list, txt_list]
  rfl
theorem run_str_lt (l m : List UInt8) (w : World) : (binOp .lss 9 (txt l) (txt m)).run Tryd.prog w = .ok (.bool (Op.bytesLess l m)) w := by
  unfold txt
  rw [binOp_string_lss, txt_list, txt_list]
  rfl
theorem eqg_ne (t : TypeId) (x y : Operand) (l m : List UInt8) : eqGuard .neq t x y (txt l) (txt m) = pure () := rfl
theorem eqg_eq (t : TypeId) (x y : Operand) (l m : List UInt8) : eqGuard .eql t x y (txt l) (txt m) = pure () := rfl
theorem kreadid_id (w : World) (A : Option Addr) (c : Nat) (n : Int) (h1 : -9223372036854775808 ≤ n) (h2 : n ≤ 9223372036854775807) (hr : BRow w A (Key.id n)) (hc : 8 ≤ c) :
    Calls Tryd.prog 15 #[.slice A 8 c] w fun e w' => w' = w ∧ e = .returned (.tuple #[.int .i64 n, .int .i64 0]) := by
  have K := kreadid_any w A c (Key.id n) hr (by rw [Key.id_length]; exact hc) (by rw [Key.id_length]; decide)
  have hx := xor_id h1 h2
  rw [IntWalk.i64_left] at hx
  rw [Key.id_length, if_neg (by decide), if_neg (by decide), Key.lo_id h1 h2, hx] at K
  exact K
theorem id_of (l : List UInt8) (h : l.length = 8) : ∃ n : Int, -9223372036854775808 ≤ n ∧ n ≤ 9223372036854775807 ∧ l = Key.id n := by
  have hl := Wal.lo8_lt l h
  refine ⟨(Wal.lo l : Int) - 9223372036854775808, by omega, by omega, ?_⟩
  unfold Key.id Key.idn Wal.hi8
  rw [show (((Wal.lo l : Int) - 9223372036854775808) + 9223372036854775808).toNat = Wal.lo l from by omega]
  have := Wal.hiR_lo l
  rw [h] at this
  exact this.symm
set_option maxRecDepth 20000 in
set_option maxHeartbeats 4000000 in
theorem keyIDs_walk (w : World) (a : Int) (wa : (Lit.int .i64 a).wf = true) (b : Int) (wb : (Lit.int .i64 b).wf = true) (A : Option Addr) (c : Nat) (l : List UInt8) (br : BRow w A l) (lc : l.length ≤ c) (cm : c ≤ maxLen) :
    Calls Tryd.prog 4 #[.int .i64 a, .int .i64 b, .slice A l.length c] w fun e w' => e = .returned (.bool true) ∧ Below w.heap.size w w' := by
  simp [Lit.wf, IntKind.min, IntKind.max, IntKind.signed, IntKind.bits] at wa wb
  have HR := Lib.hid br
  have HA := Lib.hid wa
  have HB := Lib.hid wb
  have hl0 : l.length ≤ 9223372036854775807 := Nat.le_trans lc cm
  have HLC := Lib.hid lc
  clear br wa wb lc cm
  go_enter Tryd.func4, Tryd.ntmps4
  go_wp2_with fail
  refine (klives_any _).mono ?_
  rintro e w1 ⟨rfl, hb1⟩
  have H1 := Lib.hid hb1
  clear hb1
  by_cases hg : 100 < l.length
  · have hi : (100 : Int) < (l.length : Int) := by omega
    clear hg
    go_wp2_with fail
    refine (klives_any _).mono ?_
    rintro e w2 ⟨rfl, hb2⟩
    go_wp2_with fail
    go_ret
    exact ⟨rfl, H1.out.then hb2⟩
  have hi : ¬ (100 : Int) < (l.length : Int) := by omega
  have hlm : l.length ≤ 100 := by omega
  clear hg hl0
  have hn8 := Lib.hid (Key.id_length a)
  have hnb := Lib.hid (Key.id_length b)
  go_wp2_with fail
  refine (kid_any _ a HA.out.1 HA.out.2).mono ?_
  rintro e w2 ⟨A2, c2, rfl, hr2, hc2, hb2⟩
  rw [hn8.out] at hc2 ⊢
  have H2 := Lib.hid (And.intro hr2 (H1.out.then hb2))
  clear hr2 hb2
  go_wp2_with fail
  refine (kid_any _ b HB.out.1 HB.out.2).mono ?_
  rintro e w3 ⟨A3, c3, rfl, hr3, hc3, hb3⟩
  rw [hnb.out] at hc3 ⊢
  have H3 := Lib.hid (And.intro hr3 (And.intro (H2.out.1.below hb3) (H2.out.2.then hb3)))
  clear hr3 hb3 H2
  go_wp2_with fail
  refine (kreadid_id _ A2 c2 a HA.out.1 HA.out.2 H3.out.2.1 hc2).mono ?_
  rintro e wq ⟨hq, rfl⟩
  rw [hq]
  clear hq wq
  go_upto_region 5 with fail
  have HX : Hid (Op.bytesLess (Key.id a) (Key.id b) = decide (a < b)) := Key.id_less HA.out.1 HA.out.2 HB.out.1 HB.out.2
  have kne := run_str_ne
  have gne := eqg_ne
  have klt := run_str_lt
  have hsa : ∀ c', (convert 30 9 (.slice A2 8 c')).run Tryd.prog w3 = .ok (txt (Key.id a)) w3 := fun c' => by have := run_string_bytes w3 c' H3.out.2.1; rw [hn8.out] at this; exact this
  have hsd : ∀ c', (convert 30 9 (.slice A2 8 c')).run Tryd.prog w3.drew = .ok (txt (Key.id a)) w3.drew := fun c' => by have := run_string_bytes w3.drew c' H3.out.2.1.drew; rw [hn8.out] at this; exact this
  refine wp_region_plan (.take 0 (.take 1 (.take 2 (.run 3 [0, 1] (.take 4 (.take 5 (.take 6 (.take 7 (.take 8 (.take 9 (.take 10 (.take 11 (.take 12 (.take 13 (.take 14 (.take 15 (.take 16 (.take 17 (.take 18 (.take 19 (.take 20 (.take 21 (.take 22 (.take 23 (.take 24 (.take 25 (.take 26 (.take 27 (.take 28 (.take 29 .fin)))))))))))))))))))))))))))))) (by kernel_rfl) (by kernel_rfl) (by kernel_rfl) (by kernel_rfl) ?_
  repeat' (first | (refine hZ _ _ ?_; clear hZ) | (refine hZ _ ?_; clear hZ) | (refine hZ ?_; clear hZ) | rw [again_nil] | rw [walk_fin] | ((first | rw [walk_take] | rw [walk_run] | rw [again_cons]); intro Z hZ; simp only [sel, List.getElem?_toArray, List.getElem?_cons_zero, List.getElem?_cons_succ]; go_wp2_with (fail)))
  refine (refid_any _ a HA.out.1 HA.out.2).mono ?_
  rintro e w4 ⟨rfl, hb4⟩
  have h34 : Below w3.heap.size w3 w4 := (Below.refl _ _).drewR.then hb4
  have H4 := Lib.hid (And.intro (H3.out.1.below h34) (And.intro (H3.out.2.1.below h34) (H3.out.2.2.then h34)))
  have hs4 : ∀ c', (convert 30 9 (.slice A2 8 c')).run Tryd.prog w4 = .ok (txt (Key.id a)) w4 := fun c' => by have := run_string_bytes w4 c' H4.out.2.1; rw [hn8.out] at this; exact this
  have hs5 : ∀ c', (convert 30 9 (.slice A3 8 c')).run Tryd.prog w4 = .ok (txt (Key.id b)) w4 := fun c' => by have := run_string_bytes w4 c' H4.out.1; rw [hnb.out] at this; exact this
  have haa : (Key.id a == Key.id a) = true := by simp
  clear hsa hsd hb4 h34 H3
  have hx := HX.out
  by_cases hab : a < b
  · have hx1 : Op.bytesLess (Key.id a) (Key.id b) = true := by rw [hx]; simp [hab]
    have hdd : decide (a < b) = true := by simp [hab]
    clear hx
    go_wp2_with fail
    repeat' (first | (refine hZ _ _ ?_; clear hZ) | (refine hZ _ ?_; clear hZ) | (refine hZ ?_; clear hZ) | rw [again_nil] | rw [walk_fin] | ((first | rw [walk_take] | rw [walk_run] | rw [again_cons]); intro Z hZ; simp only [sel, List.getElem?_toArray, List.getElem?_cons_zero, List.getElem?_cons_succ]; go_wp2_with (fail)))
    clear hs4 hs5 haa hx1 hab hdd kne klt gne
    by_cases h8 : l.length < 8
    · have K := kreadid_any w4 A c l (HR.out.below H4.out.2.2) HLC.out (Nat.le_trans hlm (by decide))
      rw [if_pos h8] at K
      have HK := Lib.hid K
      have h8i : (l.length : Int) < 8 := by omega
      clear K h8
      go_wp2_with fail
      refine HK.out.mono ?_
      rintro e wq ⟨hq, rfl⟩
      rw [hq]
      clear hq wq HK
      go_wp2_with fail
      go_ret
      exact ⟨rfl, H4.out.2.2⟩
    have h8i : ¬ (l.length : Int) < 8 := by omega
    by_cases h9 : 8 < l.length
    · have K := kreadid_any w4 A c l (HR.out.below H4.out.2.2) HLC.out (Nat.le_trans hlm (by decide))
      rw [if_neg h8, if_pos h9] at K
      have HK := Lib.hid K
      have h9i : (8 : Int) < (l.length : Int) := by omega
      clear K h8 h9
      go_wp2_with fail
      refine HK.out.mono ?_
      rintro e wq ⟨hq, rfl⟩
      rw [hq]
      clear hq wq HK
      go_wp2_with fail
      go_ret
      exact ⟨rfl, H4.out.2.2⟩
    have h8e : l.length = 8 := by omega
    obtain ⟨n, n1, n2, rfl⟩ := id_of l h8e
    have HN := Lib.hid (And.intro n1 n2)
    have HE := Lib.hid h8e
    have HC8 : Hid (8 ≤ c) := by have := HLC.out; rw [h8e] at this; exact this
    rw [h8e]
    clear h8 h8i h9 h8e hlm n1 n2 HLC
    go_wp2_with fail
    refine (kreadid_id _ A c n HN.out.1 HN.out.2 (HR.out.below H4.out.2.2) HC8.out).mono ?_
    rintro e wq ⟨hq, rfl⟩
    rw [hq]
    clear hq wq
    go_upto_region 12 with fail
    have keq := run_str_eq
    have geq := eqg_eq
    have hsd : ∀ c', (convert 30 9 (.slice A 8 c')).run Tryd.prog w4.drew = .ok (txt (Key.id n)) w4.drew := fun c' => by have := run_string_bytes w4.drew c' (HR.out.below H4.out.2.2).drew; rw [HE.out] at this; exact this
    refine wp_region_plan (.take 0 (.take 1 (.take 2 (.take 3 (.take 6 (.take 7 (.run 4 [6, 7] (.take 5 (.take 8 (.take 9 (.take 10 .fin))))))))))) (by kernel_rfl) (by kernel_rfl) (by kernel_rfl) (by kernel_rfl) ?_
    repeat' (first | (refine hZ _ _ ?_; clear hZ) | (refine hZ _ ?_; clear hZ) | (refine hZ ?_; clear hZ) | rw [again_nil] | rw [walk_fin] | ((first | rw [walk_take] | rw [walk_run] | rw [again_cons]); intro Z hZ; simp only [sel, List.getElem?_toArray, List.getElem?_cons_zero, List.getElem?_cons_succ]; go_wp2_with (fail)))
    refine (kid_any _ n HN.out.1 HN.out.2).mono ?_
    rintro e w5 ⟨A5, c5, rfl, hr5, hc5, hb5⟩
    have hb6 := H4.out.2.2.then ((Below.refl _ _).drewR.then hb5)
    have h1 : ∀ c', (convert 30 9 (.slice A 8 c')).run Tryd.prog w5 = .ok (txt (Key.id n)) w5 := fun c' => by have := run_string_bytes w5 c' (HR.out.below hb6); rw [HE.out] at this; exact this
    have h2 : ∀ c', (convert 30 9 (.slice A5 8 c')).run Tryd.prog w5 = .ok (txt (Key.id n)) w5 := fun c' => by have := run_string_bytes w5 c' hr5; rw [HE.out] at this; exact this
    rw [HE.out]
    have HB6 := Lib.hid hb6
    have hnn : (Key.id n == Key.id n) = true := by simp
    clear hsd hr5 hb5 hb6 hc5
    go_wp2_with fail
    repeat' (first | (refine hZ _ _ ?_; clear hZ) | (refine hZ _ ?_; clear hZ) | (refine hZ ?_; clear hZ) | rw [again_nil] | rw [walk_fin] | ((first | rw [walk_take] | rw [walk_run] | rw [again_cons]); intro Z hZ; simp only [sel, List.getElem?_toArray, List.getElem?_cons_zero, List.getElem?_cons_succ]; go_wp2_with (fail)))
    clear h1 h2 hnn keq geq
    go_wp2_with fail
    go_ret
    exact ⟨rfl, HB6.out⟩
  · have hx1 : Op.bytesLess (Key.id a) (Key.id b) = false := by rw [hx]; simp [hab]
    have hdd : decide (a < b) = false := by simp [hab]
    clear hx hab
    go_wp2_with fail
    repeat' (first | (refine hZ _ _ ?_; clear hZ) | (refine hZ _ ?_; clear hZ) | (refine hZ ?_; clear hZ) | rw [again_nil] | rw [walk_fin] | ((first | rw [walk_take] | rw [walk_run] | rw [again_cons]); intro Z hZ; simp only [sel, List.getElem?_toArray, List.getElem?_cons_zero, List.getElem?_cons_succ]; go_wp2_with (fail)))
    clear hs4 hs5 haa hx1 hdd kne klt gne
    by_cases h8 : l.length < 8
    · have K := kreadid_any w4 A c l (HR.out.below H4.out.2.2) HLC.out (Nat.le_trans hlm (by decide))
      rw [if_pos h8] at K
      have HK := Lib.hid K
      have h8i : (l.length : Int) < 8 := by omega
      clear K h8
      go_wp2_with fail
      refine HK.out.mono ?_
      rintro e wq ⟨hq, rfl⟩
      rw [hq]
      clear hq wq HK
      go_wp2_with fail
      go_ret
      exact ⟨rfl, H4.out.2.2⟩
    have h8i : ¬ (l.length : Int) < 8 := by omega
    by_cases h9 : 8 < l.length
    · have K := kreadid_any w4 A c l (HR.out.below H4.out.2.2) HLC.out (Nat.le_trans hlm (by decide))
      rw [if_neg h8, if_pos h9] at K
      have HK := Lib.hid K
      have h9i : (8 : Int) < (l.length : Int) := by omega
      clear K h8 h9
      go_wp2_with fail
      refine HK.out.mono ?_
      rintro e wq ⟨hq, rfl⟩
      rw [hq]
      clear hq wq HK
      go_wp2_with fail
      go_ret
      exact ⟨rfl, H4.out.2.2⟩
    have h8e : l.length = 8 := by omega
    obtain ⟨n, n1, n2, rfl⟩ := id_of l h8e
    have HN := Lib.hid (And.intro n1 n2)
    have HE := Lib.hid h8e
    have HC8 : Hid (8 ≤ c) := by have := HLC.out; rw [h8e] at this; exact this
    rw [h8e]
    clear h8 h8i h9 h8e hlm n1 n2 HLC
    go_wp2_with fail
    refine (kreadid_id _ A c n HN.out.1 HN.out.2 (HR.out.below H4.out.2.2) HC8.out).mono ?_
    rintro e wq ⟨hq, rfl⟩
    rw [hq]
    clear hq wq
    go_upto_region 12 with fail
    have keq := run_str_eq
    have geq := eqg_eq
    have hsd : ∀ c', (convert 30 9 (.slice A 8 c')).run Tryd.prog w4.drew = .ok (txt (Key.id n)) w4.drew := fun c' => by have := run_string_bytes w4.drew c' (HR.out.below H4.out.2.2).drew; rw [HE.out] at this; exact this
    refine wp_region_plan (.take 0 (.take 1 (.take 2 (.take 3 (.take 6 (.take 7 (.run 4 [6, 7] (.take 5 (.take 8 (.take 9 (.take 10 .fin))))))))))) (by kernel_rfl) (by kernel_rfl) (by kernel_rfl) (by kernel_rfl) ?_
    repeat' (first | (refine hZ _ _ ?_; clear hZ) | (refine hZ _ ?_; clear hZ) | (refine hZ ?_; clear hZ) | rw [again_nil] | rw [walk_fin] | ((first | rw [walk_take] | rw [walk_run] | rw [again_cons]); intro Z hZ; simp only [sel, List.getElem?_toArray, List.getElem?_cons_zero, List.getElem?_cons_succ]; go_wp2_with (fail)))
    refine (kid_any _ n HN.out.1 HN.out.2).mono ?_
    rintro e w5 ⟨A5, c5, rfl, hr5, hc5, hb5⟩
    have hb6 := H4.out.2.2.then ((Below.refl _ _).drewR.then hb5)
    have h1 : ∀ c', (convert 30 9 (.slice A 8 c')).run Tryd.prog w5 = .ok (txt (Key.id n)) w5 := fun c' => by have := run_string_bytes w5 c' (HR.out.below hb6); rw [HE.out] at this; exact this
    have h2 : ∀ c', (convert 30 9 (.slice A5 8 c')).run Tryd.prog w5 = .ok (txt (Key.id n)) w5 := fun c' => by have := run_string_bytes w5 c' hr5; rw [HE.out] at this; exact this
    rw [HE.out]
    have HB6 := Lib.hid hb6
    have hnn : (Key.id n == Key.id n) = true := by simp
    clear hsd hr5 hb5 hb6 hc5
    go_wp2_with fail
    repeat' (first | (refine hZ _ _ ?_; clear hZ) | (refine hZ _ ?_; clear hZ) | (refine hZ ?_; clear hZ) | rw [again_nil] | rw [walk_fin] | ((first | rw [walk_take] | rw [walk_run] | rw [again_cons]); intro Z hZ; simp only [sel, List.getElem?_toArray, List.getElem?_cons_zero, List.getElem?_cons_succ]; go_wp2_with (fail)))
    clear h1 h2 hnn keq geq
    go_wp2_with fail
    go_ret
    exact ⟨rfl, HB6.out⟩
end Go.Proofs.YtknfnhmkiooifaaDoor
end

section
/-
  The contracts of key.After and of the document's After.
-/
namespace Go.Proofs.YtknfnhmkiooifaaDoor
set_option linter.unusedSimpArgs false
set_option linter.unusedVariables false
open Go.RowKit

/-- What After answers. -/
def AftB (w : World) (l : List UInt8) (e : Ending) (w' : World) : Prop :=
  ∃ r, Key.IsAfter l r ∧ Below w.heap.size w w' ∧ ((r = none ∧ e = .returned (.tuple #[.slice none 0 0, .bool false])) ∨ ∃ a A c, r = some a ∧ e = .returned (.tuple #[.slice A a.length c, .bool true]) ∧ BRow w' A a ∧ a.length ≤ c)
def AftS (w : World) (l : List UInt8) (e : Ending) (w' : World) : Prop :=
  ∃ r, Key.IsAfter l r ∧ Below w.heap.size w w' ∧ ((r = none ∧ e = .returned (.tuple #[txt [], .bool false])) ∨ ∃ a, r = some a ∧ e = .returned (.tuple #[txt a, .bool true]))
def slcLen : Value → Nat
  | .slice _ n _ => n
  | _ => 0
theorem after_hit {l : List UInt8} {m : Nat} (hm : m < l.length) (hx : l[m] < 255) (ht : ∀ d ∈ l.drop (m + 1), d = 255) : Key.IsAfter l (some (l.take m ++ [l[m] + 1])) :=
  .inr ⟨l.take m, l[m], l.drop (m + 1), by rw [List.getElem_cons_drop, List.take_append_drop], hx, ht, rfl⟩
theorem after_step {l : List UInt8} {m : Nat} (hm : m < l.length) (hx : ¬ l[m] < 255) (ht : ∀ d ∈ l.drop (m + 1), d = 255) : ∀ d ∈ l.drop m, d = 255 := by
  intro d hd
  rw [← List.getElem_cons_drop hm] at hd
  rcases List.mem_cons.1 hd with rfl | hd
  · have := l[m].toNat_lt
    rw [UInt8.lt_iff_toNat_lt] at hx
    have e0 : (255 : UInt8).toNat = 255 := rfl
    exact UInt8.toNat_inj.1 (by omega)
  · exact ht d hd
theorem after_none {l : List UInt8} (h : ∀ d ∈ l.drop 0, d = 255) : Key.IsAfter l none := .inl ⟨rfl, by simpa using h⟩
theorem take_set {l : List UInt8} {m : Nat} (hm : m < l.length) (x : UInt8) : (l.set m x).take (m + 1) = l.take m ++ [x] := by
  rw [List.take_succ_eq_append_getElem (by simpa using hm), List.take_set_of_le (Nat.le_refl _)]
  simp
theorem add_one_u8 {x : UInt8} (h : x < 255) : bv (x + 1) = .int .u8 ((x.toNat : Int) + 1) := by
  rw [UInt8.lt_iff_toNat_lt] at h
  have e0 : (255 : UInt8).toNat = 255 := rfl
  unfold bv
  rw [UInt8.toNat_add]
  have e1 : (1 : UInt8).toNat = 1 := rfl
  rw [e1, Nat.mod_eq_of_lt (by omega)]
  rfl
set_option maxRecDepth 20000 in
set_option maxHeartbeats 2000000 in
theorem kafter_any (w : World) (A : Option Addr) (c : Nat) (l : List UInt8) (hr : BRow w A l) (hl : l.length ≤ 1000000) : Calls Tryd.prog 17 #[.slice A l.length c] w (AftB w l) := by
  have HR := Lib.hid hr
  clear hr
  go_enter Tryd.func17, Tryd.ntmps17
  go_wp2_with fail
  refine (clone_any _ A c l HR.out hl).mono ?_
  rintro e w1 ⟨A1, c1, rfl, ho, hb⟩
  have HO := Lib.hid (And.intro ho hb)
  have hcap := ho.cap
  clear ho hb
  go_wp2_with fail
  go_loop [4] (fun ov => ∃ k : Nat, k ≤ l.length ∧ ov = .slice A1 k c1 ∧ Hid (∀ d ∈ l.drop k, d = 255)) (fun ov => slcLen ov)
  case atStart => exact ⟨l.length, Nat.le_refl _, rfl, by show ∀ _, _; simp⟩
  case round =>
    obtain ⟨k, hk, rfl, HK⟩ := hrel
    by_cases h0 : 0 < k
    · obtain ⟨m, rfl⟩ : ∃ m, k = m + 1 := ⟨k - 1, by omega⟩
      have hm : m < l.length := by omega
      have hi : (0 : Int) < ((m + 1 : Nat) : Int) := by omega
      rcases HO.out.1.form with ⟨_, _, rfl⟩ | ⟨g, rfl, hBg, hg, hlc, _⟩
      · simp at hm
      · have hc0 := HO.out.1.cell (j := m) hm
        have hf0 := HO.out.1.free m
        have hx := l[m].toNat_lt
        have HS := Lib.hid (after_step hm)
        have HH := Lib.hid (after_hit hm)
        have HT := Lib.hid (take_set hm (l[m] + 1))
        have HST := Lib.hid (fun (v : Value) (hv : bv (l[m] + 1) = v) => HO.out.1.store m (l[m] + 1) v hv)
        by_cases h5 : l[m] < 255
        · have HV := Lib.hid (add_one_u8 h5)
          have H5 := Lib.hid h5
          have h5i : (l[m].toNat : Int) < 255 := by rw [UInt8.lt_iff_toNat_lt] at h5; have e0 : (255 : UInt8).toNat = 255 := rfl; omega
          clear h5
          generalize l[m].toNat = x at hc0 hx h5i HV
          go_wp2_with fail
          go_ret2
          have hln : (l.take m ++ [l[m] + 1]).length = m + 1 := by simp; omega
          refine ⟨some (l.take m ++ [l[m] + 1]), HH.out H5.out HK.out, HO.out.2.setCell (p := ⟨g, m, none⟩) hBg _, .inr ⟨_, some ⟨g, 0, none⟩, c1, rfl, ?_, ?_, ?_⟩⟩
          · rw [hln]; rfl
          · rw [← HT.out]; exact (HST.out _ HV.out).row.take (m + 1)
          · rw [hln]; omega
        · have H5 := Lib.hid h5
          have h5i : ¬ (l[m].toNat : Int) < 255 := by rw [UInt8.lt_iff_toNat_lt] at h5; have e0 : (255 : UInt8).toNat = 255 := rfl; omega
          clear h5
          generalize l[m].toNat = x at hc0 hx h5i
          go_wp2_with fail
          go_round
          case rel => exact ⟨m, by omega, by go_num, HS.out H5.out HK.out⟩
          case measure => simp [slcLen]
    · obtain rfl : k = 0 := by omega
      go_wp2_with fail
      go_ret2
      exact ⟨none, after_none HK.out, HO.out.2, .inl ⟨rfl, rfl⟩⟩
set_option maxRecDepth 20000 in
set_option maxHeartbeats 2000000 in
theorem refafter_any (w : World) (l : List UInt8) (hl : l.length ≤ 1000000) : Calls Tryd.prog 18 #[txt l] w (AftS w l) := by
  have hsz : (ByteArray.mk l.toArray).size = l.length := by simp [ByteArray.size]
  go_enter Tryd.func18, Tryd.ntmps18
  unfold txt
  go_wp2_with fail
  go_loopw [4] (fun iv wr => ∃ k : Nat, k ≤ l.length ∧ iv = .int .i64 ((k : Int) - 1) ∧ Hid ((∀ d ∈ l.drop k, d = 255) ∧ wr = w)) (fun iv _ => (intOf iv + 1).toNat)
  case atStart => exact ⟨l.length, Nat.le_refl _, rfl, by show _ ∧ _; simp⟩
  case round =>
    obtain ⟨k, hk, rfl, HK⟩ := hrel
    obtain rfl : wr = w := HK.out.2
    by_cases h0 : 0 < k
    · obtain ⟨m, rfl⟩ : ∃ m, k = m + 1 := ⟨k - 1, by omega⟩
      have hm : m < l.length := by omega
      have hmi : (((m + 1 : Nat) : Int) - 1) = (m : Int) := by omega
      rw [hmi]
      have hget : (ByteArray.mk l.toArray).data[m]? = some l[m] := by simp [hm]
      have hx := l[m].toNat_lt
      have hi2 : m < (ByteArray.mk l.toArray).size := by rw [hsz]; exact hm
      have hb : (ByteArray.mk l.toArray)[m]'hi2 = l[m] := by rfl
      have HS := Lib.hid (after_step hm)
      have HH := Lib.hid (after_hit hm)
      clear hmi
      by_cases h5 : l[m] < 255
      · have HV := Lib.hid (add_one_u8 h5)
        have H5 := Lib.hid h5
        have h5i : (l[m].toNat : Int) < 255 := by rw [UInt8.lt_iff_toNat_lt] at h5; have e0 : (255 : UInt8).toNat = 255 := rfl; omega
        clear h5
        have hrow : BRow (wr.alloc (.cells #[.int .u8 ((l[m].toNat : Int) + 1)] 5)).drew (some ⟨wr.heap.size, 0, none⟩) [l[m] + 1] := (BRow.one _ _ _ _ HV.out).drew
        have hsb : (convert 30 9 (.slice (some ⟨wr.heap.size, 0, none⟩) 1 1)).run Tryd.prog (wr.alloc (.cells #[.int .u8 ((l[m].toNat : Int) + 1)] 5)).drew = .ok (.string ⟨#[l[m] + 1]⟩) (wr.alloc (.cells #[.int .u8 ((l[m].toNat : Int) + 1)] 5)).drew := run_string_bytes _ 1 hrow
        have hcut := cut_head l m
        have hj : ByteArray.mk (l.take m).toArray ++ ByteArray.mk #[l[m] + 1] = ⟨(l.take m ++ [l[m] + 1]).toArray⟩ := cut_join (l.take m) [l[m] + 1]
        have hs1 : (ByteArray.mk (l.take m).toArray).size = m := by simp [ByteArray.size]; omega
        have hs2 : (ByteArray.mk #[l[m] + 1]).size = 1 := rfl
        go_upto_region 5 with fail
        refine wp_region_plan (.take 0 (.take 1 (.take 2 (.take 3 (.take 4 (.take 5 (.take 6 (.run 7 [0, 1, 2] (.take 8 (.take 9 (.take 10 (.take 11 .fin)))))))))))) (by kernel_rfl) (by kernel_rfl) (by kernel_rfl) (by kernel_rfl) ?_
        repeat' (first | (refine hZ _ _ ?_; clear hZ) | (refine hZ _ ?_; clear hZ) | (refine hZ ?_; clear hZ) | rw [again_nil] | rw [walk_fin] | ((first | rw [walk_take] | rw [walk_run] | rw [again_cons]); intro Z hZ; simp only [sel, List.getElem?_toArray, List.getElem?_cons_zero, List.getElem?_cons_succ]; go_wp2_with (fail)))
        clear hsb hcut hj hs1 hs2 hget
        go_wp2_with fail
        go_ret2
        exact ⟨_, HH.out H5.out HK.out.1, (Below.alloc1 _ _).drewR, .inr ⟨_, rfl, rfl⟩⟩
      · have H5 := Lib.hid h5
        have h5i : ¬ (l[m].toNat : Int) < 255 := by rw [UInt8.lt_iff_toNat_lt] at h5; have e0 : (255 : UInt8).toNat = 255 := rfl; omega
        clear h5
        go_wp2_with fail
        go_roundw
        case rel => exact ⟨m, by omega, by go_num, HS.out H5.out HK.out.1, trivial⟩
        case measure => simp [intOf]
    · obtain rfl : k = 0 := by omega
      go_wp2_with fail
      go_ret2
      exact ⟨none, after_none HK.out.1, Below.refl _ _, .inl ⟨rfl, rfl⟩⟩
end Go.Proofs.YtknfnhmkiooifaaDoor
end

section
/-
  The walk of dowserlaw08.KeyAfter: whatever the bytes, it answers true.
-/
namespace Go.Proofs.YtknfnhmkiooifaaDoor
set_option linter.unusedSimpArgs false
set_option linter.unusedVariables false
open Go.RowKit

theorem begins_eq (b t : List UInt8) (h : b.length ≤ t.length) : (t.take b.length == b) = decide (t.take b.length = b) := by
  by_cases e : t.take b.length = b <;> simp [e]
/-- What the law asks, once After answered. -/
theorem after_ask {b t : List UInt8} {r : Option (List UInt8)} (h : Key.IsAfter b r) : (r = none → (Op.bytesLess t b || decide (b.length ≤ t.length) && (t.take b.length == b)) = true) ∧
    (∀ a, r = some a → Op.bytesLess t a = (Op.bytesLess t b || decide (b.length ≤ t.length) && (t.take b.length == b))) := by
  have hf := Key.after_fact h t
  constructor
  · rintro rfl
    have := hf.1 (by intro a e; cases e)
    rcases this with h1 | ⟨h1, h2⟩
    · simp [h1]
    · simp [h1, h2]
  · rintro a rfl
    cases hx : Op.bytesLess t a with
    | true =>
      rcases hf.1 (by rintro c e; cases e; exact hx) with h1 | ⟨h1, h2⟩
      · simp [h1]
      · simp [h1, h2]
    | false =>
      have hn : ¬ (Op.bytesLess t b = true ∨ (b.length ≤ t.length ∧ t.take b.length = b)) := fun h' => by
        have := hf.2 h' a rfl
        rw [hx] at this; cases this
      have n1 : Op.bytesLess t b = false := by cases hb : Op.bytesLess t b with
        | true => exact absurd (.inl hb) hn
        | false => rfl
      rw [n1]
      by_cases hl : b.length ≤ t.length
      · have : ¬ t.take b.length = b := fun e => hn (.inr ⟨hl, e⟩)
        simp [hl, this]
      · simp [hl]
set_option maxRecDepth 20000 in
set_option maxHeartbeats 4000000 in
theorem keyAfter_walk (w : World) (A : Option Addr) (c : Nat) (l : List UInt8) (br : BRow w A l) (lc : l.length ≤ c) (cm : c ≤ maxLen) (B : Option Addr) (d : Nat) (t : List UInt8) (bt : BRow w B t) (ld : t.length ≤ d) (dm : d ≤ maxLen) :
    Calls Tryd.prog 5 #[.slice A l.length c, .slice B t.length d] w fun e w' => e = .returned (.bool true) ∧ Below w.heap.size w w' := by
  have HR := Lib.hid br
  have HT := Lib.hid bt
  have hl0 : l.length ≤ 9223372036854775807 := Nat.le_trans lc cm
  have ht0 : t.length ≤ 9223372036854775807 := Nat.le_trans ld dm
  have HLC := Lib.hid lc
  have HLD := Lib.hid ld
  clear br bt lc cm ld dm
  go_enter Tryd.func5, Tryd.ntmps5
  go_wp2_with fail
  refine (klives_any _).mono ?_
  rintro e w1 ⟨rfl, hb1⟩
  have H1 := Lib.hid hb1
  clear hb1
  by_cases hg : 300 < l.length
  · have hi : (300 : Int) < (l.length : Int) := by omega
    clear hg
    go_wp2_with fail
    refine (klives_any _).mono ?_
    rintro e w2 ⟨rfl, hb2⟩
    go_wp2_with fail
    go_ret
    exact ⟨rfl, H1.out.then hb2⟩
  have hi : ¬ (300 : Int) < (l.length : Int) := by omega
  have hlm : l.length ≤ 300 := by omega
  clear hg hl0
  by_cases hg : 600 < t.length
  · have hi2 : (600 : Int) < (t.length : Int) := by omega
    clear hg
    go_wp2_with fail
    refine (klives_any _).mono ?_
    rintro e w2 ⟨rfl, hb2⟩
    go_wp2_with fail
    go_ret
    exact ⟨rfl, H1.out.then hb2⟩
  have hi2 : ¬ (600 : Int) < (t.length : Int) := by omega
  have htm : t.length ≤ 600 := by omega
  clear hg ht0
  have hoe : BOwn (w1.alloc (.cells #[] 5)) w1.heap.size (some ⟨w1.heap.size, 0, none⟩) 0 [] := BOwn.new w1 [] (by simp) (Nat.le_refl _)
  have HR1 := Lib.hid ((HR.out.below H1.out).alloc (.cells #[] 5))
  go_wp2_with (at_builtin; refine wpList_append_bytes rfl (.tmp 24) (.tmp 25) rfl _ rfl hoe rfl _ rfl HR1.out rfl (by simp; omega) (by simp) ?_; intro A3 c3 w3 ho3 hb3 _ _)
  rw [List.nil_append] at ho3
  have H3 := Lib.hid (And.intro ho3 (H1.out.then (((Below.refl _ _).alloc (Nat.le_refl _) _).trans hb3)))
  clear ho3 hb3 hoe HR1
  have kne := run_str_ne
  have gne := eqg_ne
  have keq := run_str_eq
  have geq := eqg_eq
  have klt := run_str_lt
  have hll : (l == l) = true := by simp
  refine (kafter_any _ A3 c3 l H3.out.1.row (Nat.le_trans hlm (by decide))).mono ?_
  rintro e w4 ⟨r, hr, hb4, hcase⟩
  have HAR := Lib.hid hr
  have HASK := Lib.hid (after_ask (t := t) hr)
  have HO4 := Lib.hid (And.intro (H3.out.1.row.below hb4) (H3.out.2.then hb4))
  clear hb4 hr
  have hs4 : ∀ c', (convert 30 9 (.slice A l.length c')).run Tryd.prog w4 = .ok (txt l) w4 := fun c' => run_string_bytes w4 c' (HR.out.below HO4.out.2)
  rcases hcase with ⟨rfl, rfl⟩ | ⟨a, A4, c4, rfl, rfl, hra, hac⟩
  · go_wp2_with fail
    refine (refafter_any _ l (Nat.le_trans hlm (by decide))).mono ?_
    rintro e w5 ⟨r2, hr2, hb5, hcase2⟩
    obtain rfl : r2 = none := hr2.unique HAR.out
    rcases hcase2 with ⟨-, rfl⟩ | ⟨a, h, -⟩
    · have hnil : (([] : List UInt8) == []) = true := rfl
      have hqa : ∀ c', (convert 30 9 (.slice none 0 c')).run Tryd.prog w5 = .ok (txt []) w5 := fun c' => run_string_bytes w5 c' (A := none) (l := []) BRow.nil
      have hask := HASK.out.1 (by first | rfl | trivial)
      have HB5 := Lib.hid (HO4.out.2.then hb5)
      have hs5 : ∀ c', (convert 30 9 (.slice A l.length c')).run Tryd.prog w5 = .ok (txt l) w5 := fun c' => run_string_bytes w5 c' (HR.out.below HB5.out)
      have hs6 : ∀ c', (convert 30 9 (.slice A l.length c')).run Tryd.prog w5.drew = .ok (txt l) w5.drew := fun c' => run_string_bytes w5.drew c' (HR.out.below HB5.out).drew
      have hs7 : ∀ c', (convert 30 9 (.slice A3 l.length c')).run Tryd.prog w5 = .ok (txt l) w5 := fun c' => run_string_bytes w5 c' (HO4.out.1.below hb5)
      have hs8 : ∀ c', (convert 30 9 (.slice B t.length c')).run Tryd.prog w5.drew = .ok (txt t) w5.drew := fun c' => run_string_bytes w5.drew c' (HT.out.below HB5.out).drew
      clear hs4 hb5 hr2
      go_upto_region 8 with fail
      clear hs7 hs5 hqa
      have hd1 : ∀ x : Bool, (true == x) = x := by decide
      by_cases hlen : l.length ≤ t.length
      · have hci : ¬ (t.length : Int) < (l.length : Int) := by omega
        have hcj : (l.length : Int) ≤ (t.length : Int) := by omega
        have hcut := cut_h B t.length d (l.length : Int) l.length rfl (Nat.le_trans hlen HLD.out)
        have hs9 : ∀ c', (convert 30 9 (.slice B l.length c')).run Tryd.prog w5.drew = .ok (txt (t.take l.length)) w5.drew := fun c' => by
          have := run_string_bytes w5.drew c' ((HT.out.below HB5.out).drew.take l.length)
          rw [List.length_take, Nat.min_eq_left hlen] at this
          exact this
        rw [decide_eq_true hlen] at hask
        cases hq1 : Op.bytesLess t l <;> cases hq2 : (t.take l.length == l) <;> simp only [hq1, hq2, Bool.or_true, Bool.true_and, Bool.and_true, Bool.or_false, Bool.and_false, Bool.true_or, Bool.false_or, Bool.false_eq_true] at hask
        all_goals
          clear hlen
          refine wp_region_plan (.take 0 (.take 1 (.take 2 (.take 3 (.take 4 (.take 5 (.take 6 (.take 7 (.take 8 (.take 9 (.take 10 (.take 11 (.take 12 (.take 13 (.take 14 (.take 15 .fin)))))))))))))))) (by kernel_rfl) (by kernel_rfl) (by kernel_rfl) (by kernel_rfl) ?_
          repeat' (first | (refine hZ _ _ ?_; clear hZ) | (refine hZ _ ?_; clear hZ) | (refine hZ ?_; clear hZ) | rw [again_nil] | rw [walk_fin] | ((first | rw [walk_take] | rw [walk_run] | rw [again_cons]); intro Z hZ; simp only [sel, List.getElem?_toArray, List.getElem?_cons_zero, List.getElem?_cons_succ]; go_wp2_with (fail)))
          clear hcut hs9
          go_wp2_with fail
          go_ret
          exact ⟨rfl, HB5.out.drewR⟩
      · have hci : (t.length : Int) < (l.length : Int) := by omega
        have hcj : ¬ (l.length : Int) ≤ (t.length : Int) := by omega
        rw [decide_eq_false hlen] at hask
        cases hq1 : Op.bytesLess t l <;> simp only [hq1, Bool.or_true, Bool.true_and, Bool.and_true, Bool.or_false, Bool.and_false, Bool.true_or, Bool.false_or, Bool.false_and, Bool.false_eq_true] at hask
        all_goals
          clear hlen
          refine wp_region_plan (.take 0 (.take 1 (.take 2 (.take 3 (.take 4 (.take 5 (.take 6 (.take 7 (.take 8 (.take 9 (.take 10 (.take 11 (.take 12 (.take 13 (.take 14 (.take 15 .fin)))))))))))))))) (by kernel_rfl) (by kernel_rfl) (by kernel_rfl) (by kernel_rfl) ?_
          repeat' (first | (refine hZ _ _ ?_; clear hZ) | (refine hZ _ ?_; clear hZ) | (refine hZ ?_; clear hZ) | rw [again_nil] | rw [walk_fin] | ((first | rw [walk_take] | rw [walk_run] | rw [again_cons]); intro Z hZ; simp only [sel, List.getElem?_toArray, List.getElem?_cons_zero, List.getElem?_cons_succ]; go_wp2_with (fail)))
          go_wp2_with fail
          go_ret
          exact ⟨rfl, HB5.out.drewR⟩
    · cases h
  · have HRA := Lib.hid hra
    clear hra
    go_wp2_with fail
    refine (refafter_any _ l (Nat.le_trans hlm (by decide))).mono ?_
    rintro e w5 ⟨r2, hr2, hb5, hcase2⟩
    obtain rfl : r2 = some a := hr2.unique HAR.out
    rcases hcase2 with ⟨h, -⟩ | ⟨a', h, rfl⟩
    · cases h
    · obtain rfl := Option.some.inj h
      have hnil : (a == a) = true := by simp
      have hqa : ∀ c', (convert 30 9 (.slice A4 a.length c')).run Tryd.prog w5 = .ok (txt a) w5 := fun c' => run_string_bytes w5 c' (HRA.out.below hb5)
      have hqb : ∀ c', (convert 30 9 (.slice A4 a.length c')).run Tryd.prog w5.drew = .ok (txt a) w5.drew := fun c' => run_string_bytes w5.drew c' (HRA.out.below hb5).drew
      have hask := HASK.out.2 a rfl
      have HB5 := Lib.hid (HO4.out.2.then hb5)
      have hs5 : ∀ c', (convert 30 9 (.slice A l.length c')).run Tryd.prog w5 = .ok (txt l) w5 := fun c' => run_string_bytes w5 c' (HR.out.below HB5.out)
      have hs6 : ∀ c', (convert 30 9 (.slice A l.length c')).run Tryd.prog w5.drew = .ok (txt l) w5.drew := fun c' => run_string_bytes w5.drew c' (HR.out.below HB5.out).drew
      have hs7 : ∀ c', (convert 30 9 (.slice A3 l.length c')).run Tryd.prog w5 = .ok (txt l) w5 := fun c' => run_string_bytes w5 c' (HO4.out.1.below hb5)
      have hs8 : ∀ c', (convert 30 9 (.slice B t.length c')).run Tryd.prog w5.drew = .ok (txt t) w5.drew := fun c' => run_string_bytes w5.drew c' (HT.out.below HB5.out).drew
      clear hs4 hb5 hr2
      go_upto_region 8 with fail
      clear hs7 hs5 hqa
      have hd1 : ∀ x : Bool, (true == x) = x := by decide
      by_cases hlen : l.length ≤ t.length
      · have hci : ¬ (t.length : Int) < (l.length : Int) := by omega
        have hcj : (l.length : Int) ≤ (t.length : Int) := by omega
        have hcut := cut_h B t.length d (l.length : Int) l.length rfl (Nat.le_trans hlen HLD.out)
        have hs9 : ∀ c', (convert 30 9 (.slice B l.length c')).run Tryd.prog w5.drew = .ok (txt (t.take l.length)) w5.drew := fun c' => by
          have := run_string_bytes w5.drew c' ((HT.out.below HB5.out).drew.take l.length)
          rw [List.length_take, Nat.min_eq_left hlen] at this
          exact this
        rw [decide_eq_true hlen] at hask
        cases hq1 : Op.bytesLess t l <;> cases hq2 : (t.take l.length == l) <;> simp only [hq1, hq2, Bool.or_true, Bool.true_and, Bool.and_true, Bool.or_false, Bool.and_false, Bool.true_or, Bool.false_or, Bool.false_eq_true] at hask
        all_goals
          clear hlen
          refine wp_region_plan (.take 0 (.take 1 (.take 2 (.take 3 (.take 4 (.take 5 (.take 6 (.take 7 (.take 8 (.take 9 (.take 10 (.take 11 (.take 12 (.take 13 (.take 14 (.take 15 .fin)))))))))))))))) (by kernel_rfl) (by kernel_rfl) (by kernel_rfl) (by kernel_rfl) ?_
          repeat' (first | (refine hZ _ _ ?_; clear hZ) | (refine hZ _ ?_; clear hZ) | (refine hZ ?_; clear hZ) | rw [again_nil] | rw [walk_fin] | ((first | rw [walk_take] | rw [walk_run] | rw [again_cons]); intro Z hZ; simp only [sel, List.getElem?_toArray, List.getElem?_cons_zero, List.getElem?_cons_succ]; go_wp2_with (fail)))
          clear hcut hs9
          go_wp2_with fail
          go_ret
          exact ⟨rfl, HB5.out.drewR⟩
      · have hci : (t.length : Int) < (l.length : Int) := by omega
        have hcj : ¬ (l.length : Int) ≤ (t.length : Int) := by omega
        rw [decide_eq_false hlen] at hask
        cases hq1 : Op.bytesLess t l <;> simp only [hq1, Bool.or_true, Bool.true_and, Bool.and_true, Bool.or_false, Bool.and_false, Bool.true_or, Bool.false_or, Bool.false_and, Bool.false_eq_true] at hask
        all_goals
          clear hlen
          refine wp_region_plan (.take 0 (.take 1 (.take 2 (.take 3 (.take 4 (.take 5 (.take 6 (.take 7 (.take 8 (.take 9 (.take 10 (.take 11 (.take 12 (.take 13 (.take 14 (.take 15 .fin)))))))))))))))) (by kernel_rfl) (by kernel_rfl) (by kernel_rfl) (by kernel_rfl) ?_
          repeat' (first | (refine hZ _ _ ?_; clear hZ) | (refine hZ _ ?_; clear hZ) | (refine hZ ?_; clear hZ) | rw [again_nil] | rw [walk_fin] | ((first | rw [walk_take] | rw [walk_run] | rw [again_cons]); intro Z hZ; simp only [sel, List.getElem?_toArray, List.getElem?_cons_zero, List.getElem?_cons_succ]; go_wp2_with (fail)))
          go_wp2_with fail
          go_ret
          exact ⟨rfl, HB5.out.drewR⟩
end Go.Proofs.YtknfnhmkiooifaaDoor
end

section
/-
  The contracts of dowserref07.Clean, number and Order.
-/
namespace Go.Proofs.YtknfnhmkiooifaaDoor
set_option linter.unusedSimpArgs false
set_option linter.unusedVariables false
open Go.RowKit

theorem Va.dclean1 {a : Va} (h : a.k = 1) : Key.dclean a = ⟨1, a.n, 0, []⟩ := by unfold Key.dclean Key.cleanF; rw [if_pos h]
theorem Va.dclean2 {a : Va} (h : a.k = 2) : Key.dclean a = ⟨2, 0, Key.real0 a.f, []⟩ := by unfold Key.dclean Key.cleanF; rw [if_neg (by omega), if_pos h]
theorem Va.dclean3 {a : Va} (h : a.k = 3) : Key.dclean a = ⟨3, 0, 0, a.s⟩ := by unfold Key.dclean Key.cleanF; rw [if_neg (by omega), if_neg (by omega), if_pos h]
theorem Va.dclean4 {a : Va} (h : a.k = 4) : Key.dclean a = ⟨4, if a.n = 0 then 0 else 1, 0, []⟩ := by unfold Key.dclean Key.cleanF; rw [if_neg (by omega), if_neg (by omega), if_neg (by omega), if_pos h]
theorem Va.dclean0 {a : Va} (h1 : a.k ≠ 1) (h2 : a.k ≠ 2) (h3 : a.k ≠ 3) (h4 : a.k ≠ 4) : Key.dclean a = Key.nul := by unfold Key.dclean Key.cleanF; rw [if_neg h1, if_neg h2, if_neg h3, if_neg h4]
set_option maxRecDepth 20000 in
set_option maxHeartbeats 4000000 in
theorem dclean_any (w : World) (v : Va) (hv : v.ok) : Calls Tryd.prog 11 #[v.v] w (RetV w (Key.dclean v)) := by
  have HZ := Lib.hid (ford_zero hv.f1)
  clear hv
  go_enter Tryd.func11, Tryd.ntmps11
  go_upto_region 1 with (first | (refine wpList_alloc_va rfl rfl ?_; intro W2 hb2 hz2 hB2) | (refine wpList_box_va rfl (.tmp 0) rfl v rfl ?_; intro W1 hb1 hz1 hB1))
  have h12 := hb1.below hB2
  have hB := hB1.trans (hB2.mono hB1.size)
  clear hb1 hB1 hB2
  go_upto_region 2 with (first | (refine wpList_alloc_va rfl rfl ?_; intro W3 hb3 hz3 hB3) | (refine wpList_store_va rfl rfl (.tmp 3) (.tmp 4) rfl W2.heap.size rfl Key.nul rfl hb3 ?_; intro W4 hb4 hg4))
  have hz4 := hg4.size
  have h14 : Blk W4 w.heap.size 27 v.cells := (h12.below hB3).grown hg4 (by simp; omega)
  have h24 : Blk W4 W1.heap.size 27 Key.nul.cells := (hb2.below hB3).grown hg4 (by simp; omega)
  have hB4 : Below w.heap.size w W4 := below_of_grown (hB.trans (hB3.mono hB.size)) hg4 (by omega) (by omega)
  clear hb2 hB hB3 hb3 hg4 h12
  have hne : ¬ w.heap.size = W2.heap.size := by omega
  have hne' : ¬ W2.heap.size = w.heap.size := by omega
  have hz24 : W2.heap.size + 1 ≤ W4.heap.size := by omega
  obtain ⟨c0, c1, c2, c3, -⟩ := Blk.c4 h14
  obtain ⟨d0, d1, d2, d3, f0, f1, f2, f3, -⟩ := Blk.c4 hb4
  by_cases hk : v.k < 0 ∨ 4 < v.k
  · have HC := Lib.hid (Va.dclean0 (a := v) (by omega) (by omega) (by omega) (by omega))
    rcases hk with hk | hk
    · go_upto_region 3 with fail
      have hx := hb4
      have h2 := h24
      have hB := hB4
      clear c0 c1 c2 c3 d0 d1 d2 d3 f0 f1 f2 f3
      go_wp2_with (first | (refine wpList_load_va rfl (.tmp 3) rfl W2.heap.size rfl hx ?_) | (refine wpList_store_va rfl rfl (.tmp 2) (.tmp 13) rfl W1.heap.size rfl Key.nul rfl h2 ?_; intro W6 hb6 hg6))
      exact ret_va hb6 rfl rfl rfl ⟨by show Ending.returned (Va.v _) = .returned (Va.v (Key.dclean v)); rw [HC.out], below_of_grown hB hg6 (by omega) hB.size⟩
    · go_upto_region 3 with fail
      have hx := hb4
      have h2 := h24
      have hB := hB4
      clear c0 c1 c2 c3 d0 d1 d2 d3 f0 f1 f2 f3
      go_wp2_with (first | (refine wpList_load_va rfl (.tmp 3) rfl W2.heap.size rfl hx ?_) | (refine wpList_store_va rfl rfl (.tmp 2) (.tmp 13) rfl W1.heap.size rfl Key.nul rfl h2 ?_; intro W6 hb6 hg6))
      exact ret_va hb6 rfl rfl rfl ⟨by show Ending.returned (Va.v _) = .returned (Va.v (Key.dclean v)); rw [HC.out], below_of_grown hB hg6 (by omega) hB.size⟩
  have hk1 : ¬ v.k < 0 := by omega
  have hk2 : ¬ 4 < v.k := by omega
  go_upto_region 5 with fail
  have h15 := h14.other ⟨W2.heap.size, 0, none⟩ hne (.int .i64 v.k)
  have h25 := h24.other ⟨W2.heap.size, 0, none⟩ (by show W1.heap.size ≠ W2.heap.size; omega) (.int .i64 v.k)
  have hx5 : Blk (W4.setCell ⟨W2.heap.size, 0, none⟩ (.int .i64 v.k)) W2.heap.size 27 (Va.cells ⟨v.k, 0, 0, []⟩) := hb4.set0
  have hB5 := hB4.setCell (p := ⟨W2.heap.size, 0, none⟩) (by show w.heap.size ≤ W2.heap.size; omega) (.int .i64 v.k)
  clear c0 c1 c2 c3 d0 d1 d2 d3 f0 f1 f2 f3 h14 h24 hb4 hB4 hz24 hz4 hk
  generalize World.setCell W4 _ _ = W5 at h15 h25 hx5 hB5 ⊢
  obtain ⟨c0, c1, c2, c3, -⟩ := Blk.c4 h15
  obtain ⟨d0, d1, d2, d3, f0, f1, f2, f3, -⟩ := Blk.c4 hx5
  by_cases k1 : v.k = 1
  · have HC := Lib.hid (Va.dclean1 k1)
    rw [k1] at hx5 d0 c0
    go_upto_region 13 with fail
    have hx : Blk (W5.setCell ⟨W2.heap.size, 1, none⟩ (.int .i64 v.n)) W2.heap.size 27 (Va.cells ⟨1, v.n, 0, []⟩) := hx5.set1
    have h2 := h25.other ⟨W2.heap.size, 1, none⟩ (by show W1.heap.size ≠ W2.heap.size; omega) (.int .i64 v.n)
    have hB := hB5.setCell (p := ⟨W2.heap.size, 1, none⟩) (by show w.heap.size ≤ W2.heap.size; omega) (.int .i64 v.n)
    clear c0 c1 c2 c3 d0 d1 d2 d3 f0 f1 f2 f3
    go_wp2_with (first | (refine wpList_load_va rfl (.tmp 3) rfl W2.heap.size rfl hx ?_) | (refine wpList_store_va rfl rfl (.tmp 2) (.tmp 49) rfl W1.heap.size rfl ⟨1, v.n, 0, []⟩ rfl h2 ?_; intro W6 hb6 hg6))
    exact ret_va hb6 rfl rfl rfl ⟨by show Ending.returned (Va.v _) = .returned (Va.v (Key.dclean v)); rw [HC.out], below_of_grown hB hg6 (by omega) hB.size⟩
  by_cases k2 : v.k = 2
  · rw [k2] at hx5 d0 c0
    by_cases hz : v.f % 9223372036854775808 = 0
    · have HC : Hid (Key.dclean v = ⟨2, 0, 0, []⟩) := by show _ = _; rw [Va.dclean2 k2]; unfold Key.real0; rw [if_pos hz]
      have ho1 : (FloatKind.f64.format.order v.f 0 == some Ordering.eq) = true := HZ.out.trans (decide_eq_true hz)
      have ho2 : FloatKind.f64.format.order v.f 0 = some Ordering.eq := by simpa using ho1
      have ho : (FloatKind.f64.format.order v.f 0 != some Ordering.eq) = false := by rw [ho2]; rfl
      clear hz HZ
      go_upto_region 13 with fail
      have hx := hx5
      have h2 := h25
      have hB := hB5
      clear c0 c1 c2 c3 d0 d1 d2 d3 f0 f1 f2 f3
      go_wp2_with (first | (refine wpList_load_va rfl (.tmp 3) rfl W2.heap.size rfl hx ?_) | (refine wpList_store_va rfl rfl (.tmp 2) (.tmp 49) rfl W1.heap.size rfl ⟨2, 0, 0, []⟩ rfl h2 ?_; intro W6 hb6 hg6))
      exact ret_va hb6 rfl rfl rfl ⟨by show Ending.returned (Va.v _) = .returned (Va.v (Key.dclean v)); rw [HC.out], below_of_grown hB hg6 (by omega) hB.size⟩
    · have HC : Hid (Key.dclean v = ⟨2, 0, v.f, []⟩) := by show _ = _; rw [Va.dclean2 k2]; unfold Key.real0; rw [if_neg hz]
      have ho1 : (FloatKind.f64.format.order v.f 0 == some Ordering.eq) = false := HZ.out.trans (decide_eq_false hz)
      have ho2 : ¬ FloatKind.f64.format.order v.f 0 = some Ordering.eq := by simpa using ho1
      have ho : (FloatKind.f64.format.order v.f 0 != some Ordering.eq) = true := by unfold bne; rw [ho1]; rfl
      have hst : ∀ (w : World) (a : Addr) (b : Nat), (store a (.float .f64 b)).run Tryd.prog w = stored Tryd.prog w a (.float .f64 b) .plain := fun w a b => run_store Tryd.prog w a (.float .f64 b) .plain rfl
      clear hz HZ
      go_upto_region 13 with fail
      have hx : Blk (W5.setCell ⟨W2.heap.size, 2, none⟩ (.float .f64 v.f)) W2.heap.size 27 (Va.cells ⟨2, 0, v.f, []⟩) := hx5.set2
      clear hst
      have h2 := h25.other ⟨W2.heap.size, 2, none⟩ (by show W1.heap.size ≠ W2.heap.size; omega) (.float .f64 v.f)
      have hB := hB5.setCell (p := ⟨W2.heap.size, 2, none⟩) (by show w.heap.size ≤ W2.heap.size; omega) (.float .f64 v.f)
      clear c0 c1 c2 c3 d0 d1 d2 d3 f0 f1 f2 f3
      go_wp2_with (first | (refine wpList_load_va rfl (.tmp 3) rfl W2.heap.size rfl hx ?_) | (refine wpList_store_va rfl rfl (.tmp 2) (.tmp 49) rfl W1.heap.size rfl ⟨2, 0, v.f, []⟩ rfl h2 ?_; intro W6 hb6 hg6))
      exact ret_va hb6 rfl rfl rfl ⟨by show Ending.returned (Va.v _) = .returned (Va.v (Key.dclean v)); rw [HC.out], below_of_grown hB hg6 (by omega) hB.size⟩
  by_cases k3 : v.k = 3
  · have HC := Lib.hid (Va.dclean3 k3)
    rw [k3] at hx5 d0 c0
    have c3' : W5.cell? ⟨w.heap.size, 3, none⟩ = some (.string ⟨v.s.toArray⟩) := c3
    clear c3
    have c3 := True.intro
    go_upto_region 13 with fail
    have hx : Blk (W5.setCell ⟨W2.heap.size, 3, none⟩ (txt v.s)) W2.heap.size 27 (Va.cells ⟨3, 0, 0, v.s⟩) := hx5.set3
    clear c3'
    have h2 := h25.other ⟨W2.heap.size, 3, none⟩ (by show W1.heap.size ≠ W2.heap.size; omega) (txt v.s)
    have hB := hB5.setCell (p := ⟨W2.heap.size, 3, none⟩) (by show w.heap.size ≤ W2.heap.size; omega) (txt v.s)
    clear c0 c1 c2 c3 d0 d1 d2 d3 f0 f1 f2 f3
    go_wp2_with (first | (refine wpList_load_va rfl (.tmp 3) rfl W2.heap.size rfl hx ?_) | (refine wpList_store_va rfl rfl (.tmp 2) (.tmp 49) rfl W1.heap.size rfl ⟨3, 0, 0, v.s⟩ rfl h2 ?_; intro W6 hb6 hg6))
    exact ret_va hb6 rfl rfl rfl ⟨by show Ending.returned (Va.v _) = .returned (Va.v (Key.dclean v)); rw [HC.out], below_of_grown hB hg6 (by omega) hB.size⟩
  by_cases k4 : v.k = 4
  · rw [k4] at hx5 d0 c0
    by_cases hn : v.n = 0
    · have HC : Hid (Key.dclean v = ⟨4, 0, 0, []⟩) := by show _ = _; rw [Va.dclean4 k4, if_pos hn]
      go_upto_region 13 with fail
      have hx := hx5
      have h2 := h25
      have hB := hB5
      clear c0 c1 c2 c3 d0 d1 d2 d3 f0 f1 f2 f3
      go_wp2_with (first | (refine wpList_load_va rfl (.tmp 3) rfl W2.heap.size rfl hx ?_) | (refine wpList_store_va rfl rfl (.tmp 2) (.tmp 49) rfl W1.heap.size rfl ⟨4, 0, 0, []⟩ rfl h2 ?_; intro W6 hb6 hg6))
      exact ret_va hb6 rfl rfl rfl ⟨by show Ending.returned (Va.v _) = .returned (Va.v (Key.dclean v)); rw [HC.out], below_of_grown hB hg6 (by omega) hB.size⟩
    · have HC : Hid (Key.dclean v = ⟨4, 1, 0, []⟩) := by show _ = _; rw [Va.dclean4 k4, if_neg hn]
      go_upto_region 13 with fail
      have hx : Blk (W5.setCell ⟨W2.heap.size, 1, none⟩ (.int .i64 1)) W2.heap.size 27 (Va.cells ⟨4, 1, 0, []⟩) := hx5.set1
      have h2 := h25.other ⟨W2.heap.size, 1, none⟩ (by show W1.heap.size ≠ W2.heap.size; omega) (.int .i64 1)
      have hB := hB5.setCell (p := ⟨W2.heap.size, 1, none⟩) (by show w.heap.size ≤ W2.heap.size; omega) (.int .i64 1)
      clear c0 c1 c2 c3 d0 d1 d2 d3 f0 f1 f2 f3
      go_wp2_with (first | (refine wpList_load_va rfl (.tmp 3) rfl W2.heap.size rfl hx ?_) | (refine wpList_store_va rfl rfl (.tmp 2) (.tmp 49) rfl W1.heap.size rfl ⟨4, 1, 0, []⟩ rfl h2 ?_; intro W6 hb6 hg6))
      exact ret_va hb6 rfl rfl rfl ⟨by show Ending.returned (Va.v _) = .returned (Va.v (Key.dclean v)); rw [HC.out], below_of_grown hB hg6 (by omega) hB.size⟩
  · have k0 : v.k = 0 := by omega
    have HC := Lib.hid (Va.dclean0 k1 k2 k3 k4)
    rw [k0] at hx5 d0 c0
    clear k1 k2 k3 k4 hk1 hk2
    go_upto_region 13 with fail
    have hx := hx5
    have h2 := h25
    have hB := hB5
    clear c0 c1 c2 c3 d0 d1 d2 d3 f0 f1 f2 f3
    go_wp2_with (first | (refine wpList_load_va rfl (.tmp 3) rfl W2.heap.size rfl hx ?_) | (refine wpList_store_va rfl rfl (.tmp 2) (.tmp 49) rfl W1.heap.size rfl Key.nul rfl h2 ?_; intro W6 hb6 hg6))
    exact ret_va hb6 rfl rfl rfl ⟨by show Ending.returned (Va.v _) = .returned (Va.v (Key.dclean v)); rw [HC.out], below_of_grown hB hg6 (by omega) hB.size⟩
end Go.Proofs.YtknfnhmkiooifaaDoor
end

section
/-
  The contract of dowserref07.Order.
-/
namespace Go.Proofs.YtknfnhmkiooifaaDoor
set_option linter.unusedSimpArgs false
set_option linter.unusedVariables false
open Go.RowKit

theorem txt_bytes (l : List UInt8) : (ByteArray.mk l.toArray).toList = l := by rw [Lib.toList_data]
theorem less_asymm : ∀ a b : List UInt8, Op.bytesLess a b = true → Op.bytesLess b a = false
  | _, [], h => by simp [Op.bytesLess] at h
  | [], _ :: _, _ => rfl
  | a :: x, b :: y, h => by
    simp only [Op.bytesLess, Bool.or_eq_true, Bool.and_eq_true, decide_eq_true_eq, beq_iff_eq] at h
    simp only [Op.bytesLess, Bool.or_eq_false_iff, Bool.and_eq_false_iff, decide_eq_false_iff_not, beq_eq_false_iff_ne]
    rcases h with h | ⟨rfl, h⟩
    · rw [UInt8.lt_iff_toNat_lt] at h
      exact ⟨by rw [UInt8.lt_iff_toNat_lt]; omega, .inl fun e => by subst e; omega⟩
    · exact ⟨by rw [UInt8.lt_iff_toNat_lt]; omega, .inr (less_asymm x y h)⟩
theorem not_less_eq (l m : List UInt8) : (!(Op.bytesLess l m || l == m)) = Op.bytesLess m l := by
  cases h1 : Op.bytesLess l m with
  | true => rw [less_asymm l m h1]; rfl
  | false =>
    cases h2 : Op.bytesLess m l with
    | true =>
      have : (l == m) = false := by
        rw [beq_eq_false_iff_ne]
        intro e; subst e; rw [h1] at h2; cases h2
      rw [this]; rfl
    | false =>
      have := Key.less_total l m h1 h2
      subst this
      simp
theorem str_lt (l m : List UInt8) (w : World) : (binOp .lss 9 (txt l) (txt m)).run Tryd.prog w = .ok (.bool (Op.bytesLess l m)) w := by
  unfold txt
  rw [binOp_string_lss, txt_bytes, txt_bytes]
  rfl
theorem str_gt (l m : List UInt8) (w : World) : (binOp .gtr 9 (txt l) (txt m)).run Tryd.prog w = .ok (.bool (Op.bytesLess m l)) w := by
  unfold txt
  rw [binOp_string_gtr, txt_bytes, txt_bytes, not_less_eq]
  rfl
set_option maxRecDepth 20000 in
theorem number_any (w : World) (f : Nat) (hf : f < two64) : Calls Tryd.prog 31 #[.float .f64 f] w fun e w' => e = .returned (.bool (!decide (fnan f))) ∧ w' = w := by
  have h := ford_self hf
  have h2 : (FloatKind.f64.format.order f f == some Ordering.eq) = !decide (fnan f) := by
    rw [← h]
    show _ = !(ford f f != some Ordering.eq)
    unfold bne
    rw [Bool.not_not]
    rfl
  clear h hf
  have HF := Lib.hid h2
  clear h2
  go_enter Tryd.func31, Tryd.ntmps31
  go_wp2_with fail
  go_ret
  exact ⟨by rw [← HF.out]; rfl, rfl⟩
namespace Key
theorem vord_lt {a b : Va} (h : vless a b) : vord a b = -1 := by unfold vord; rw [if_pos h]
theorem vord_gt {a b : Va} (h1 : ¬ vless a b) (h : vless b a) : vord a b = 1 := by unfold vord; rw [if_neg h1, if_pos h]
theorem vord_eq {a b : Va} (h1 : ¬ vless a b) (h : ¬ vless b a) : vord a b = 0 := by unfold vord; rw [if_neg h1, if_neg h]
theorem vless_real {a b : Va} (h : a.k = b.k) (h2 : a.k = 2) : vless a b ↔ ((¬ fnan a.f ∧ fnan b.f) ∨ (¬ fnan a.f ∧ ¬ fnan b.f ∧ fsg a.f < fsg b.f)) := by
  unfold vless
  rw [if_pos h2]
  constructor
  · rintro (h' | h')
    · omega
    · exact h'.2
  · intro h'; exact .inr ⟨h, h'⟩
theorem vless_text {a b : Va} (h : a.k = b.k) (h2 : a.k = 3) : vless a b ↔ Op.bytesLess a.s b.s = true := by
  unfold vless
  rw [if_neg (by omega), if_pos h2]
  constructor
  · rintro (h' | h')
    · omega
    · exact h'.2
  · intro h'; exact .inr ⟨h, h'⟩
theorem vless_num {a b : Va} (h : a.k = b.k) (h2 : a.k ≠ 2) (h3 : a.k ≠ 3) : vless a b ↔ a.n < b.n := by
  unfold vless
  rw [if_neg h2, if_neg h3]
  constructor
  · rintro (h' | h')
    · omega
    · exact h'.2
  · intro h'; exact .inr ⟨h, h'⟩
theorem vless_kind {a b : Va} (h : a.k ≠ b.k) : vless a b ↔ a.k < b.k := by
  unfold vless
  constructor
  · rintro (h' | h')
    · exact h'
    · exact absurd h'.1 h
  · exact .inl
end Key
set_option maxRecDepth 20000 in
set_option maxHeartbeats 4000000 in
theorem vorder_any (w : World) (a b : Va) (ha : a.ok) (hb : b.ok) : Calls Tryd.prog 12 #[a.v, b.v] w fun e w' => e = .returned (.int .i64 (Key.vord (Key.dclean a) (Key.dclean b))) ∧ Below w.heap.size w w' := by
  have HA := Lib.hid ha
  have HB := Lib.hid hb
  have HXO := Lib.hid (Key.dclean_ok ha)
  have HYO := Lib.hid (Key.dclean_ok hb)
  clear ha hb
  go_enter Tryd.func12, Tryd.ntmps12
  go_upto_region 1 with (first | (refine wpList_box_va rfl (.tmp 0) rfl a rfl ?_; intro W1 hb1 hz1 hB1) | (refine wpList_box_va rfl (.tmp 1) rfl b rfl ?_; intro W2 hb2 hz2 hB2))
  have h12 := hb1.below hB2
  have hB := hB1.trans (hB2.mono hB1.size)
  clear hb1 hB1 hB2
  have h1d := h12.drew
  have h2d := hb2.drew
  refine wp_region_plan (.take 0 (.take 2 (.run 1 [2] (.run 3 [] (.run 4 [] (.run 5 [] .fin)))))) (by kernel_rfl) (by kernel_rfl) (by kernel_rfl) (by kernel_rfl) ?_
  repeat' (first | (refine hZ _ _ ?_; clear hZ) | (refine hZ _ ?_; clear hZ) | (refine hZ ?_; clear hZ) | rw [again_nil] | rw [walk_fin] | ((first | rw [walk_take] | rw [walk_run] | rw [again_cons]); intro Z hZ; simp only [sel, List.getElem?_toArray, List.getElem?_cons_zero, List.getElem?_cons_succ]; go_wp2_with (first | (refine wpList_load_va rfl (.tmp 2) rfl w.heap.size rfl h1d ?_) | (refine wpList_load_va rfl (.tmp 3) rfl W1.heap.size rfl h2d ?_))))
  refine (dclean_any _ a HA.out).mono ?_
  rintro e W3 ⟨rfl, hB3⟩
  have h1e := h1d.below hB3
  have h2e := h2d.below hB3
  have hBe := hB.drewR.trans (hB3.mono hB.size)
  have hze : W2.heap.size ≤ W3.heap.size := hB3.size
  clear h1d h2d hB3 h12 hb2 hB
  go_wp2_with fail
  repeat' (first | (refine hZ _ _ ?_; clear hZ) | (refine hZ _ ?_; clear hZ) | (refine hZ ?_; clear hZ) | rw [again_nil] | rw [walk_fin] | ((first | rw [walk_take] | rw [walk_run] | rw [again_cons]); intro Z hZ; simp only [sel, List.getElem?_toArray, List.getElem?_cons_zero, List.getElem?_cons_succ]; go_wp2_with (first | (refine wpList_load_va rfl (.tmp 3) rfl W1.heap.size rfl h2e ?_))))
  refine (dclean_any _ b HB.out).mono ?_
  rintro e W4 ⟨rfl, hB4⟩
  have h1f := h1e.below hB4
  have h2f := h2e.below hB4
  have hBf := hBe.trans (hB4.mono hBe.size)
  have hzf : W3.heap.size ≤ W4.heap.size := hB4.size
  clear h1e h2e hB4 hBe
  go_wp2_with fail
  repeat' (first | (refine hZ _ _ ?_; clear hZ) | (refine hZ _ ?_; clear hZ) | (refine hZ ?_; clear hZ) | rw [again_nil] | rw [walk_fin] | ((first | rw [walk_take] | rw [walk_run] | rw [again_cons]); intro Z hZ; simp only [sel, List.getElem?_toArray, List.getElem?_cons_zero, List.getElem?_cons_succ]; go_wp2_with (first | (refine wpList_store_va rfl rfl (.tmp 2) (.tmp 8) rfl w.heap.size rfl (Key.dclean a) rfl h1f ?_; intro W5 hb5 hg5; have h25 := h2f.grown hg5 (by simp; omega)) | (refine wpList_store_va rfl rfl (.tmp 3) (.tmp 10) rfl W1.heap.size rfl (Key.dclean b) rfl h25 ?_; intro W6 hb6 hg6))))
  have h16 : Blk W6 w.heap.size 27 (Key.dclean a).cells := hb5.grown hg6 (by simp; omega)
  have hB5 : Below w.heap.size w W5 := below_of_grown hBf hg5 (Nat.le_refl _) (by omega)
  have HB6 : Hid (Below w.heap.size w W6) := below_of_grown hB5 hg6 (by omega) hB5.size
  clear h1f h2f hBf hb5 hg5 h25 hg6 hB5 HA HB
  generalize hX : Key.dclean a = x at HXO h16 ⊢
  generalize hY : Key.dclean b = y at HYO hb6 ⊢
  have HX := Lib.hid hX
  have HY := Lib.hid hY
  clear hX hY
  clear hze hzf hz1 hz2
  obtain ⟨c0, c1, c2, c3, -⟩ := Blk.c4 h16
  obtain ⟨d0, d1, d2, d3, -⟩ := Blk.c4 hb6
  have c0d : W6.drew.cell? ⟨w.heap.size, 0, none⟩ = some (.int .i64 x.k) := c0
  have d0d : W6.drew.cell? ⟨W1.heap.size, 0, none⟩ = some (.int .i64 y.k) := d0
  clear h16 hb6
  go_upto_region 2 with fail
  by_cases hk : x.k = y.k
  · have HKK := Lib.hid hk
    rw [hk] at c0 c0d
    clear hk
    refine wp_region_plan (.take 0 (.take 1 (.take 2 (.take 3 (.take 4 (.take 5 (.take 6 (.take 7 (.take 8 (.take 9 (.take 10 (.take 11 .fin)))))))))))) (by kernel_rfl) (by kernel_rfl) (by kernel_rfl) (by kernel_rfl) ?_
    repeat' (first | (refine hZ _ _ ?_; clear hZ) | (refine hZ _ ?_; clear hZ) | (refine hZ ?_; clear hZ) | rw [again_nil] | rw [walk_fin] | ((first | rw [walk_take] | rw [walk_run] | rw [again_cons]); intro Z hZ; simp only [sel, List.getElem?_toArray, List.getElem?_cons_zero, List.getElem?_cons_succ]; go_wp2_with (fail)))
    go_upto_region 4 with fail
    by_cases k2 : y.k = 2
    · have HVL := Lib.hid (Key.vless_real HKK.out (by rw [HKK.out]; exact k2))
      have HVG := Lib.hid (Key.vless_real HKK.out.symm k2)
      rw [k2] at c0 d0 c0d d0d
      refine wp_region_plan (.take 0 (.take 1 (.take 2 (.take 3 (.take 4 (.take 5 (.take 6 (.take 7 (.take 8 (.take 9 (.take 10 (.take 11 .fin)))))))))))) (by kernel_rfl) (by kernel_rfl) (by kernel_rfl) (by kernel_rfl) ?_
      repeat' (first | (refine hZ _ _ ?_; clear hZ) | (refine hZ _ ?_; clear hZ) | (refine hZ ?_; clear hZ) | rw [again_nil] | rw [walk_fin] | ((first | rw [walk_take] | rw [walk_run] | rw [again_cons]); intro Z hZ; simp only [sel, List.getElem?_toArray, List.getElem?_cons_zero, List.getElem?_cons_succ]; go_wp2_with (fail)))
      by_cases nx : fnan x.f
      · have hdx : (!decide (fnan x.f)) = false := by simp [nx]
        have hord : FloatKind.f64.format.order x.f y.f = none := ford_nan (.inl nx)
        by_cases ny : fnan y.f
        · have hdy : (!decide (fnan y.f)) = false := by simp [ny]
          have HV := Lib.hid (Key.vord_eq (a := x) (b := y) (fun h => by rcases HVL.out.1 h with h | h <;> exact h.1 nx) (fun h => by rcases HVG.out.1 h with h | h <;> exact h.1 ny))
          clear nx ny
          go_wp2_with fail
          refine (number_any _ x.f HXO.out.f1).mono ?_
          rintro e wq ⟨rfl, hwq⟩
          rw [hwq, hdx]
          clear hwq wq
          go_wp2_with fail
          refine (number_any _ x.f HXO.out.f1).mono ?_
          rintro e wq ⟨rfl, hwq⟩
          rw [hwq, hdx]
          clear hwq wq
          go_wp2_with fail
          refine (number_any _ y.f HYO.out.f1).mono ?_
          rintro e wq ⟨rfl, hwq⟩
          rw [hwq, hdy]
          clear hwq wq
          go_wp2_with fail
          go_ret
          exact ⟨by rw [HX.out, HY.out, HV.out]; rfl, HB6.out.drewR.drewR⟩
        · have hdy : (!decide (fnan y.f)) = true := by simp [ny]
          have HV := Lib.hid (Key.vord_gt (a := x) (b := y) (fun h => by rcases HVL.out.1 h with h | h <;> exact h.1 nx) (HVG.out.2 (.inl ⟨ny, nx⟩)))
          clear nx ny
          go_wp2_with fail
          refine (number_any _ x.f HXO.out.f1).mono ?_
          rintro e wq ⟨rfl, hwq⟩
          rw [hwq, hdx]
          clear hwq wq
          go_wp2_with fail
          refine (number_any _ x.f HXO.out.f1).mono ?_
          rintro e wq ⟨rfl, hwq⟩
          rw [hwq, hdx]
          clear hwq wq
          go_wp2_with fail
          refine (number_any _ y.f HYO.out.f1).mono ?_
          rintro e wq ⟨rfl, hwq⟩
          rw [hwq, hdy]
          clear hwq wq
          go_wp2_with fail
          go_ret
          exact ⟨by rw [HX.out, HY.out, HV.out]; rfl, HB6.out.drewR.drewR⟩
      · have hdx : (!decide (fnan x.f)) = true := by simp [nx]
        by_cases ny : fnan y.f
        · have hdy : (!decide (fnan y.f)) = false := by simp [ny]
          have hord : FloatKind.f64.format.order x.f y.f = none := ford_nan (.inr ny)
          have HV := Lib.hid (Key.vord_lt (a := x) (b := y) (HVL.out.2 (.inl ⟨nx, ny⟩)))
          clear nx ny
          go_wp2_with fail
          refine (number_any _ x.f HXO.out.f1).mono ?_
          rintro e wq ⟨rfl, hwq⟩
          rw [hwq, hdx]
          clear hwq wq
          go_wp2_with fail
          refine (number_any _ y.f HYO.out.f1).mono ?_
          rintro e wq ⟨rfl, hwq⟩
          rw [hwq, hdy]
          clear hwq wq
          go_wp2_with fail
          refine (number_any _ x.f HXO.out.f1).mono ?_
          rintro e wq ⟨rfl, hwq⟩
          rw [hwq, hdx]
          clear hwq wq
          go_wp2_with fail
          go_ret
          exact ⟨by rw [HX.out, HY.out, HV.out]; rfl, HB6.out.drewR.drewR⟩
        · have hdy : (!decide (fnan y.f)) = true := by simp [ny]
          have ho : FloatKind.f64.format.order x.f y.f = some (compare (fsg x.f) (fsg y.f)) := ford_some HXO.out.f1 HYO.out.f1 nx ny
          rcases Int.lt_trichotomy (fsg x.f) (fsg y.f) with h | h | h
          · have hord : FloatKind.f64.format.order x.f y.f = some .lt := by rw [ho, Std.compare_eq_lt.2 h]
            have HV := Lib.hid (Key.vord_lt (a := x) (b := y) (HVL.out.2 (.inr ⟨nx, ny, h⟩)))
            clear nx ny ho h
            go_wp2_with fail
            refine (number_any _ x.f HXO.out.f1).mono ?_
            rintro e wq ⟨rfl, hwq⟩
            rw [hwq, hdx]
            clear hwq wq
            go_wp2_with fail
            refine (number_any _ y.f HYO.out.f1).mono ?_
            rintro e wq ⟨rfl, hwq⟩
            rw [hwq, hdy]
            clear hwq wq
            go_wp2_with fail
            refine (number_any _ x.f HXO.out.f1).mono ?_
            rintro e wq ⟨rfl, hwq⟩
            rw [hwq, hdx]
            clear hwq wq
            go_wp2_with fail
            go_ret
            exact ⟨by rw [HX.out, HY.out, HV.out]; rfl, HB6.out.drewR.drewR⟩
          · have hord : FloatKind.f64.format.order x.f y.f = some .eq := by rw [ho, h, Std.compare_self]
            have HV := Lib.hid (Key.vord_eq (a := x) (b := y) (fun h' => (HVL.out.1 h').elim (fun h' => ny h'.2) (fun h' => absurd h'.2.2 (by omega))) (fun h' => (HVG.out.1 h').elim (fun h' => nx h'.2) (fun h' => absurd h'.2.2 (by omega))))
            clear nx ny ho h
            go_wp2_with fail
            refine (number_any _ x.f HXO.out.f1).mono ?_
            rintro e wq ⟨rfl, hwq⟩
            rw [hwq, hdx]
            clear hwq wq
            go_wp2_with fail
            refine (number_any _ y.f HYO.out.f1).mono ?_
            rintro e wq ⟨rfl, hwq⟩
            rw [hwq, hdy]
            clear hwq wq
            go_wp2_with fail
            refine (number_any _ x.f HXO.out.f1).mono ?_
            rintro e wq ⟨rfl, hwq⟩
            rw [hwq, hdx]
            clear hwq wq
            go_wp2_with fail
            go_ret
            exact ⟨by rw [HX.out, HY.out, HV.out]; rfl, HB6.out.drewR.drewR⟩
          · have hord : FloatKind.f64.format.order x.f y.f = some .gt := by rw [ho, Std.compare_eq_gt.2 h]
            have HV := Lib.hid (Key.vord_gt (a := x) (b := y) (fun h' => (HVL.out.1 h').elim (fun h' => ny h'.2) (fun h' => absurd h'.2.2 (by omega))) (HVG.out.2 (.inr ⟨ny, nx, h⟩)))
            clear nx ny ho h
            go_wp2_with fail
            refine (number_any _ x.f HXO.out.f1).mono ?_
            rintro e wq ⟨rfl, hwq⟩
            rw [hwq, hdx]
            clear hwq wq
            go_wp2_with fail
            refine (number_any _ y.f HYO.out.f1).mono ?_
            rintro e wq ⟨rfl, hwq⟩
            rw [hwq, hdy]
            clear hwq wq
            go_wp2_with fail
            refine (number_any _ x.f HXO.out.f1).mono ?_
            rintro e wq ⟨rfl, hwq⟩
            rw [hwq, hdx]
            clear hwq wq
            go_wp2_with fail
            go_ret
            exact ⟨by rw [HX.out, HY.out, HV.out]; rfl, HB6.out.drewR.drewR⟩
    by_cases k3 : y.k = 3
    · have HVL := Lib.hid (Key.vless_text HKK.out (by rw [HKK.out]; exact k3))
      have HVG := Lib.hid (Key.vless_text HKK.out.symm k3)
      rw [k3] at c0 d0 c0d d0d
      refine wp_region_plan (.take 0 (.take 1 (.take 2 (.take 3 (.take 4 (.take 5 (.take 6 (.take 7 (.take 8 (.take 9 (.take 10 (.take 11 .fin)))))))))))) (by kernel_rfl) (by kernel_rfl) (by kernel_rfl) (by kernel_rfl) ?_
      repeat' (first | (refine hZ _ _ ?_; clear hZ) | (refine hZ _ ?_; clear hZ) | (refine hZ ?_; clear hZ) | rw [again_nil] | rw [walk_fin] | ((first | rw [walk_take] | rw [walk_run] | rw [again_cons]); intro Z hZ; simp only [sel, List.getElem?_toArray, List.getElem?_cons_zero, List.getElem?_cons_succ]; go_wp2_with (fail)))
      have klt := str_lt
      have kgt := str_gt
      go_upto_region 9 with fail
      cases hq1 : Op.bytesLess x.s y.s with
      | true =>
        have hq2 := less_asymm x.s y.s hq1
        have HV := Lib.hid (Key.vord_lt (a := x) (b := y) (HVL.out.2 hq1))
        refine wp_region_plan (.take 0 (.take 1 (.take 2 (.take 3 (.take 4 (.take 5 (.take 6 (.take 7 (.take 8 (.take 9 (.take 10 (.take 11 .fin)))))))))))) (by kernel_rfl) (by kernel_rfl) (by kernel_rfl) (by kernel_rfl) ?_
        repeat' (first | (refine hZ _ _ ?_; clear hZ) | (refine hZ _ ?_; clear hZ) | (refine hZ ?_; clear hZ) | rw [again_nil] | rw [walk_fin] | ((first | rw [walk_take] | rw [walk_run] | rw [again_cons]); intro Z hZ; simp only [sel, List.getElem?_toArray, List.getElem?_cons_zero, List.getElem?_cons_succ]; go_wp2_with (fail)))
        clear klt kgt
        go_wp2_with fail
        go_ret
        exact ⟨by rw [HX.out, HY.out, HV.out]; rfl, HB6.out.drewR.drewR.drewR⟩
      | false =>
        cases hq2 : Op.bytesLess y.s x.s with
        | true =>
          have HV := Lib.hid (Key.vord_gt (a := x) (b := y) (fun h => by have := HVL.out.1 h; rw [hq1] at this; cases this) (HVG.out.2 hq2))
          refine wp_region_plan (.take 0 (.take 1 (.take 2 (.take 3 (.take 4 (.take 5 (.take 6 (.take 7 (.take 8 (.take 9 (.take 10 (.take 11 .fin)))))))))))) (by kernel_rfl) (by kernel_rfl) (by kernel_rfl) (by kernel_rfl) ?_
          repeat' (first | (refine hZ _ _ ?_; clear hZ) | (refine hZ _ ?_; clear hZ) | (refine hZ ?_; clear hZ) | rw [again_nil] | rw [walk_fin] | ((first | rw [walk_take] | rw [walk_run] | rw [again_cons]); intro Z hZ; simp only [sel, List.getElem?_toArray, List.getElem?_cons_zero, List.getElem?_cons_succ]; go_wp2_with (fail)))
          clear klt kgt
          go_wp2_with fail
          go_ret
          exact ⟨by rw [HX.out, HY.out, HV.out]; rfl, HB6.out.drewR.drewR.drewR⟩
        | false =>
          have HV := Lib.hid (Key.vord_eq (a := x) (b := y) (fun h => by have := HVL.out.1 h; rw [hq1] at this; cases this) (fun h => by have := HVG.out.1 h; rw [hq2] at this; cases this))
          refine wp_region_plan (.take 0 (.take 1 (.take 2 (.take 3 (.take 4 (.take 5 (.take 6 (.take 7 (.take 8 (.take 9 (.take 10 (.take 11 .fin)))))))))))) (by kernel_rfl) (by kernel_rfl) (by kernel_rfl) (by kernel_rfl) ?_
          repeat' (first | (refine hZ _ _ ?_; clear hZ) | (refine hZ _ ?_; clear hZ) | (refine hZ ?_; clear hZ) | rw [again_nil] | rw [walk_fin] | ((first | rw [walk_take] | rw [walk_run] | rw [again_cons]); intro Z hZ; simp only [sel, List.getElem?_toArray, List.getElem?_cons_zero, List.getElem?_cons_succ]; go_wp2_with (fail)))
          clear klt kgt
          go_wp2_with fail
          go_ret
          exact ⟨by rw [HX.out, HY.out, HV.out]; rfl, HB6.out.drewR.drewR.drewR⟩
    · have HVL := Lib.hid (Key.vless_num HKK.out (by rw [HKK.out]; exact k2) (by rw [HKK.out]; exact k3))
      have HVG := Lib.hid (Key.vless_num HKK.out.symm k2 k3)
      rcases Int.lt_trichotomy x.n y.n with h | h | h
      · have h' : ¬ y.n < x.n := by omega
        have HV := Lib.hid (Key.vord_lt (a := x) (b := y) (HVL.out.2 h))
        refine wp_region_plan (.take 0 (.take 1 (.take 2 (.take 3 (.take 4 (.take 5 (.take 6 (.take 7 (.take 8 (.take 9 (.take 10 (.take 11 .fin)))))))))))) (by kernel_rfl) (by kernel_rfl) (by kernel_rfl) (by kernel_rfl) ?_
        repeat' (first | (refine hZ _ _ ?_; clear hZ) | (refine hZ _ ?_; clear hZ) | (refine hZ ?_; clear hZ) | rw [again_nil] | rw [walk_fin] | ((first | rw [walk_take] | rw [walk_run] | rw [again_cons]); intro Z hZ; simp only [sel, List.getElem?_toArray, List.getElem?_cons_zero, List.getElem?_cons_succ]; go_wp2_with (fail)))
        go_wp2_with fail
        go_ret
        exact ⟨by rw [HX.out, HY.out, HV.out]; rfl, HB6.out.drewR.drewR⟩
      · have HV := Lib.hid (Key.vord_eq (a := x) (b := y) (fun h' => by have := HVL.out.1 h'; omega) (fun h' => by have := HVG.out.1 h'; omega))
        rw [h] at c1
        clear h
        refine wp_region_plan (.take 0 (.take 1 (.take 2 (.take 3 (.take 4 (.take 5 (.take 6 (.take 7 (.take 8 (.take 9 (.take 10 (.take 11 .fin)))))))))))) (by kernel_rfl) (by kernel_rfl) (by kernel_rfl) (by kernel_rfl) ?_
        repeat' (first | (refine hZ _ _ ?_; clear hZ) | (refine hZ _ ?_; clear hZ) | (refine hZ ?_; clear hZ) | rw [again_nil] | rw [walk_fin] | ((first | rw [walk_take] | rw [walk_run] | rw [again_cons]); intro Z hZ; simp only [sel, List.getElem?_toArray, List.getElem?_cons_zero, List.getElem?_cons_succ]; go_wp2_with (fail)))
        go_wp2_with fail
        go_ret
        exact ⟨by rw [HX.out, HY.out, HV.out]; rfl, HB6.out.drewR.drewR⟩
      · have h' : ¬ x.n < y.n := by omega
        have HV := Lib.hid (Key.vord_gt (a := x) (b := y) (fun h'' => by have := HVL.out.1 h''; omega) (HVG.out.2 h))
        refine wp_region_plan (.take 0 (.take 1 (.take 2 (.take 3 (.take 4 (.take 5 (.take 6 (.take 7 (.take 8 (.take 9 (.take 10 (.take 11 .fin)))))))))))) (by kernel_rfl) (by kernel_rfl) (by kernel_rfl) (by kernel_rfl) ?_
        repeat' (first | (refine hZ _ _ ?_; clear hZ) | (refine hZ _ ?_; clear hZ) | (refine hZ ?_; clear hZ) | rw [again_nil] | rw [walk_fin] | ((first | rw [walk_take] | rw [walk_run] | rw [again_cons]); intro Z hZ; simp only [sel, List.getElem?_toArray, List.getElem?_cons_zero, List.getElem?_cons_succ]; go_wp2_with (fail)))
        go_wp2_with fail
        go_ret
        exact ⟨by rw [HX.out, HY.out, HV.out]; rfl, HB6.out.drewR.drewR⟩
  · have HK := Lib.hid (Key.vless_kind hk)
    have HK2 := Lib.hid (Key.vless_kind (Ne.symm hk))
    by_cases hlt : x.k < y.k
    · have hn2 : ¬ y.k < x.k := by omega
      have HV := Lib.hid (Key.vord_lt (HK.out.2 hlt))
      refine wp_region_plan (.take 0 (.take 1 (.take 2 (.take 3 (.take 4 (.take 5 (.take 6 (.take 7 (.take 8 (.take 9 (.take 10 (.take 11 .fin)))))))))))) (by kernel_rfl) (by kernel_rfl) (by kernel_rfl) (by kernel_rfl) ?_
      repeat' (first | (refine hZ _ _ ?_; clear hZ) | (refine hZ _ ?_; clear hZ) | (refine hZ ?_; clear hZ) | rw [again_nil] | rw [walk_fin] | ((first | rw [walk_take] | rw [walk_run] | rw [again_cons]); intro Z hZ; simp only [sel, List.getElem?_toArray, List.getElem?_cons_zero, List.getElem?_cons_succ]; go_wp2_with (fail)))
      go_wp2_with fail
      go_ret
      exact ⟨by rw [HX.out, HY.out, HV.out]; rfl, HB6.out.drewR⟩
    · have hgt : y.k < x.k := by omega
      have HV := Lib.hid (Key.vord_gt (fun h => hlt (HK.out.1 h)) (HK2.out.2 hgt))
      refine wp_region_plan (.take 0 (.take 1 (.take 2 (.take 3 (.take 4 (.take 5 (.take 6 (.take 7 (.take 8 (.take 9 (.take 10 (.take 11 .fin)))))))))))) (by kernel_rfl) (by kernel_rfl) (by kernel_rfl) (by kernel_rfl) ?_
      repeat' (first | (refine hZ _ _ ?_; clear hZ) | (refine hZ _ ?_; clear hZ) | (refine hZ ?_; clear hZ) | rw [again_nil] | rw [walk_fin] | ((first | rw [walk_take] | rw [walk_run] | rw [again_cons]); intro Z hZ; simp only [sel, List.getElem?_toArray, List.getElem?_cons_zero, List.getElem?_cons_succ]; go_wp2_with (fail)))
      go_wp2_with fail
      go_ret
      exact ⟨by rw [HX.out, HY.out, HV.out]; rfl, HB6.out.drewR⟩
end Go.Proofs.YtknfnhmkiooifaaDoor
end

section
/-
  Data that came in: rows of elements of any kind, bytes, numbers.
-/
namespace Go.Proofs.YtknfnhmkiooifaaDoor
set_option linter.unusedSimpArgs false
set_option linter.unusedVariables false
open Go.RowKit Go.Deep Go.WideShapes Go.ChangeShapes

section
variable {H : Type} {enc : TypeId × Value → H} {w : World} {base : Nat} {spare : Nat → Bool} {held : Bool} {fuel : Nat} {cs : List Value} {x : DataW H × List MemPlace}
theorem open_elems {α : Type} [Inhabited α] (E : Elem α) (hce : Tryd.prog.cellsOf E.e = E.sz) (Deep : α → Prop)
    (hopen : ∀ fuel cs x, DataW.trod enc Tryd.prog w base spare held fuel E.e cs = some x → cs.length = E.sz → ∃ a, cs = E.code a ∧ Deep a)
    (h : DataW.trod enc Tryd.prog w base spare held fuel E.t cs = some x) : ∃ A L c, cs = [.slice A (List.length L) c] ∧ ERow E w A L ∧ (∀ a ∈ L, Deep a) ∧ L.length ≤ c ∧ c ≤ maxLen := by
  rcases open_slice E.under h with ⟨rfl, _⟩ | ⟨a, len, cap, m, n, D, Pl, rfl, _, hl, hm, hmm, _, hx⟩
  · exact ⟨none, [], 0, rfl, ERow.nil, by simp, by simp, Nat.zero_le _⟩
  · have hlm : len ≤ m := by rw [hmm]; split <;> omega
    have each : ∀ i, i < len → ∃ y : α, (∀ k, k < E.sz → w.cell? (a.add (i * E.sz + k)) = (E.code y)[k]?) ∧ Deep y := by
      intro i hi
      obtain ⟨cs', h1, h2⟩ := hx i (by omega)
      rw [hce] at h1
      obtain ⟨_, hlen, hcell⟩ := World.cells?_some h1
      obtain ⟨y, rfl, hd⟩ := hopen _ _ _ h2 hlen
      refine ⟨y, fun k hk => ?_, hd⟩
      rw [← hcell k hk, add_add]
    obtain ⟨f, hf⟩ := choose_lt each
    refine ⟨some a, (List.range len).map f, cap, by simp, fun hpos => ?_, ?_, by simpa using hl, hm⟩
    · have hpos' : 0 < len := by simpa using hpos
      have h0 := (hf 0 hpos').1 0 E.pos
      have hl0 : 0 < (E.code (f 0)).length := by rw [E.len]; exact E.pos
      rw [List.getElem?_eq_getElem hl0] at h0
      obtain ⟨b, o, sp⟩ := a
      have hsp : sp = none := by simpa [Addr.add] using World.cell?_spot h0
      subst hsp
      refine ⟨b, o, rfl, by have := World.block_lt_of_cell? w _ h0; simpa [Addr.add] using this, fun j u hu => ?_⟩
      have hj := (List.getElem?_eq_some_iff.1 hu).1
      rw [Elem.cells_length] at hj
      have hj' : j < len * E.sz := by simpa using hj
      have hd : j / E.sz < len := Nat.div_lt_of_lt_mul (by rw [Nat.mul_comm]; exact hj')
      rw [E.cells_get' _ j hj] at hu
      have h2 := (hf (j / E.sz) hd).1 (j % E.sz) (Nat.mod_lt _ E.pos)
      rw [Nat.mul_comm, Nat.div_add_mod] at h2
      rw [Addr.add_lit] at h2
      rw [h2]
      simpa using hu
    · intro y hy
      obtain ⟨r, hr, rfl⟩ := List.mem_map.1 hy
      exact (hf r (List.mem_range.1 hr)).2
theorem open_bytes (h : DataW.trod enc Tryd.prog w base spare held fuel 30 cs = some x) : ∃ A l c, cs = [.slice A (List.length l) c] ∧ BRow w A l ∧ l.length ≤ c ∧ c ≤ maxLen := by
  rcases open_ints Tryd.underlying30 Tryd.underlying5 (by kernel_rfl) h with ⟨rfl, _⟩ | ⟨x, l, c, zs, rfl, _, hl, hm, hz, _, hcell, hwz⟩
  · exact ⟨none, [], 0, rfl, BRow.nil, by simp, Nat.zero_le _⟩
  · obtain ⟨l', e, hr⟩ : ∃ l' : List UInt8, l'.length = l ∧ BRow w (some x) l' := by
      have hzl : l ≤ zs.length := by rw [hz]; split <;> omega
      refine ⟨(zs.take l).map fun n => UInt8.ofNat n.toNat, by simp; omega, fun h => ?_⟩
      have hpos : 0 < zs.length := by simp at h; omega
      have h0 := hcell 0 hpos
      obtain ⟨b, o, sp⟩ := x
      have hsp : sp = none := by simpa [Addr.add] using World.cell?_spot h0
      subst hsp
      refine ⟨b, o, rfl, World.block_lt_of_cell? w _ h0, fun j hj => ?_⟩
      have hj' : j < zs.length := by simp at hj; omega
      have := hcell j hj'
      rw [Addr.add_lit] at this
      rw [this]
      have hw := hwz zs[j] (List.getElem_mem hj')
      have hb : 0 ≤ zs[j] ∧ zs[j] ≤ 255 := by
        simp [Lit.wf, IntKind.min, IntKind.max, IntKind.signed, IntKind.bits] at hw
        omega
      simp [bv, hj']
      omega
    subst e
    exact ⟨some x, l', c, rfl, hr, hl, hm⟩
theorem open_i64 {t : TypeId} (ht : Tryd.prog.underlying t = some (.int .i64)) (h : DataW.trod enc Tryd.prog w base spare held fuel t cs = some x) : ∃ n : Int, cs = [.int .i64 n] ∧ -9223372036854775808 ≤ n ∧ n ≤ 9223372036854775807 := by
  obtain ⟨n, rfl, _, hw⟩ := DataW.trod_int ht h
  simp [Lit.wf, IntKind.min, IntKind.max, IntKind.signed, IntKind.bits] at hw
  exact ⟨n, rfl, hw.1, hw.2⟩
end
end Go.Proofs.YtknfnhmkiooifaaDoor
end

section
/-
  Lists of values that come in; are they few and short?
-/
namespace Go.Proofs.YtknfnhmkiooifaaDoor
set_option linter.unusedSimpArgs false
set_option linter.unusedVariables false
open Go.RowKit Go.Deep Go.WideShapes Go.ChangeShapes

section
variable {H : Type} {enc : TypeId × Value → H} {w : World} {base : Nat} {spare : Nat → Bool} {held : Bool} {fuel : Nat} {cs : List Value} {x : DataW H × List MemPlace}
theorem trod_float {P : Program} {t : TypeId} {k : FloatKind} (ht : P.underlying t = some (.float k)) (h : DataW.trod enc P w base spare held fuel t cs = some x) : ∃ n, cs = [.float k n] ∧ (Lit.float k n).wf = true := by
  cases fuel with
  | zero => simp [DataW.trod] at h
  | succ n =>
    unfold DataW.trod at h
    rw [ht] at h
    split at h <;> simp_all
structure Va.In (v : Va) : Prop where
  ok : v.ok
  len : v.s.length ≤ maxLen
set_option maxRecDepth 20000 in
theorem open_va (h : DataW.trod enc Tryd.prog w base spare held fuel 27 cs = some x) (hlen : cs.length = 4) : ∃ v : Va, cs = eVa.code v ∧ v.In := by
  obtain ⟨xs, k, rfl, rfl, _, hxl, hfs⟩ := DataW.trod_struct Tryd.underlying27 h
  match xs, hxl, cs, hlen with
  | [y0, y1, y2, y3], _, [v0, v1, v2, v3], _ =>
    have g0 := hfs 0 _ rfl
    have g1 := hfs 1 _ rfl
    have g2 := hfs 2 _ rfl
    have g3 := hfs 3 _ rfl
    have q0 : Tryd.prog.cellsOf 3 = 1 := by kernel_rfl
    have q1 : Tryd.prog.cellsOf 2 = 1 := by kernel_rfl
    have q2 : Tryd.prog.cellsOf 25 = 1 := by kernel_rfl
    have q3 : Tryd.prog.cellsOf 9 = 1 := by kernel_rfl
    obtain ⟨n0, e0, b0⟩ := open_i64 Tryd.underlying3 (by simpa using g0)
    obtain ⟨n1, e1, b1⟩ := open_i64 Tryd.underlying2 (by simpa using g1)
    obtain ⟨n2, e2, b2⟩ := trod_float Tryd.underlying25 (by simpa using g2)
    obtain ⟨n3, e3, _, b3⟩ := DataW.trod_string Tryd.underlying9 (by simpa using g3)
    have e0' : v0 = .int .i64 n0 := by simpa [q0] using e0
    have e1' : v1 = .int .i64 n1 := by simpa [q0, q1] using e1
    have e2' : v2 = .float .f64 n2 := by simpa [q0, q1, q2] using e2
    have e3' : v3 = .string n3 := by simpa [q0, q1, q2, q3] using e3
    subst e0' e1' e2' e3'
    refine ⟨⟨n0, n1, n2, n3.data.toList⟩, ?_, ⟨b0.1, b0.2, b1.1, b1.2, ?_⟩, ?_⟩
    · show _ = [Value.int .i64 n0, .int .i64 n1, .float .f64 n2, .string ⟨n3.data.toList.toArray⟩]
      simp
    · have h : decide (n2 < 2 ^ 64) = true := b2
      exact of_decide_eq_true h
    · show n3.data.toList.length ≤ maxLen
      rw [Array.length_toList]
      exact b3
end
/-- A list of values as it comes in. -/
def ValsW (w : World) (v : Value) : Prop := ∃ A c L, v = .slice A (List.length L) c ∧ ERow eVa w A L ∧ (∀ a ∈ L, Va.In a) ∧ L.length ≤ c ∧ c ≤ maxLen
set_option maxRecDepth 20000 in
theorem vals_in {H : Type} {enc : TypeId × Value → H} {w : World} {base : Nat} {v : Value} {d : DataW H} {p : List MemPlace}
    (_hv : Value.okWide Tryd.prog w .any base 22 v) (h : DataW.Trod enc Tryd.prog w 0 (fun _ => true) true 22 v d p) : ValsW w v := by
  obtain ⟨a0, len0, cap0, rfl⟩ := okWide_slice Tryd.underlying22 _hv
  obtain ⟨fuel, hf⟩ := h
  obtain ⟨A, L, c, h1, h2, h3, h4, h5⟩ := open_elems eVa (by kernel_rfl) Va.In (fun fuel cs x h hlen => open_va h hlen) hf
  simp [Value.cells] at h1
  obtain ⟨rfl, rfl, rfl⟩ := h1
  exact ⟨_, _, L, rfl, h2, h3, h4, h5⟩
def shortB (L : List Va) : Bool := decide (L.length ≤ 20) && L.all fun v => decide (v.s.length ≤ 600)
theorem few_of {L : List Va} (h : shortB L = true) (hi : ∀ a ∈ L, Va.In a) : Few L ∧ L.length ≤ 20 ∧ ∀ v ∈ L, v.s.length ≤ 600 := by
  simp only [shortB, Bool.and_eq_true, decide_eq_true_eq, List.all_eq_true] at h
  exact ⟨⟨by omega, fun v hv => (hi v hv).ok, fun v hv => by have := h.2 v hv; omega⟩, h.1, h.2⟩
theorem short_no {L : List Va} {k : Nat} (hk : k < L.length) (h : ¬ L[k].s.length ≤ 600) : shortB L = false := by
  unfold shortB
  have : (L.all fun v => decide (v.s.length ≤ 600)) = false := by
    rw [List.all_eq_false]
    exact ⟨L[k], List.getElem_mem hk, by simpa using h⟩
  rw [this, Bool.and_false]
theorem slen_size (l : List UInt8) : (ByteArray.mk l.toArray).size = l.length := by simp [ByteArray.size]
set_option maxRecDepth 20000 in
set_option maxHeartbeats 4000000 in
theorem short_any (w : World) (A : Option Addr) (c : Nat) (L : List Va) (hr : ERow eVa w A L) (hi : ∀ a ∈ L, Va.In a) (hc : L.length ≤ c) (hm : c ≤ maxLen) :
    Calls Tryd.prog 10 #[.slice A L.length c] w fun e w' => e = .returned (.bool (shortB L)) ∧ Below w.heap.size w w' := by
  have HR := Lib.hid hr
  have HIN := Lib.hid hi
  have hl0 : L.length ≤ 9223372036854775807 := Nat.le_trans hc hm
  clear hr hi hc hm
  go_enter Tryd.func10, Tryd.ntmps10
  by_cases h20 : 20 < L.length
  · have hi20 : (20 : Int) < (L.length : Int) := by omega
    have HS : Hid (shortB L = false) := by show _ = _; unfold shortB; rw [decide_eq_false (by omega)]; rfl
    clear h20
    go_wp2_with fail
    go_ret
    exact ⟨by rw [HS.out]; rfl, Below.refl _ _⟩
  have hi20 : ¬ (20 : Int) < (L.length : Int) := by omega
  have hL20 : L.length ≤ 20 := by omega
  clear h20 hl0
  go_wp2_with fail
  go_loopw [10] (fun iv wr => ∃ k : Nat, k ≤ L.length ∧ iv = .int .i64 (k : Int) ∧ Hid ((∀ v ∈ L.take k, v.s.length ≤ 600) ∧ Below w.heap.size w wr)) (fun iv _ => L.length - (intOf iv).toNat)
  case atStart => exact ⟨0, Nat.zero_le _, rfl, by show _ ∧ _; exact ⟨by simp, Below.refl _ _⟩⟩
  case round =>
    obtain ⟨k, hk, rfl, HJ⟩ := hrel
    by_cases hlt : k < L.length
    · have hii : (k : Int) < (L.length : Int) := by omega
      obtain ⟨b, o, rfl, hb, -⟩ := HR.out.at_ hlt
      have HRW := Lib.hid (HR.out.below HJ.out.2)
      have hmx : L[k].s.length ≤ 9223372036854775807 := (HIN.out _ (List.getElem_mem hlt)).len
      have hsz := slen_size L[k].s
      go_upto_region 6 with (first | (refine wpList_load_va_at rfl (.tmp 12) rfl HRW.out hlt rfl ?_) | (refine wpList_alloc_va rfl rfl ?_; intro W2 hb2 hz2 hB2) | (refine wpList_store_va rfl rfl (.tmp 4) (.tmp 13) rfl wr.heap.size rfl L[k] rfl hb2 ?_; intro W3 hb3 hg3))
      have HB3 : Hid (Below w.heap.size w W3) := HJ.out.2.trans ((below_of_grown hB2 hg3 (Nat.le_refl _) (by omega)).mono HJ.out.2.size)
      obtain ⟨-, -, -, c3, -⟩ := Blk.c4 hb3
      have c3' : W3.cell? ⟨wr.heap.size, 3, none⟩ = some (.string ⟨L[k].s.toArray⟩) := c3
      clear c3 hb3 hb2 hB2 hg3 hz2
      by_cases h6 : 600 < L[k].s.length
      · have h6i : (600 : Int) < (L[k].s.length : Int) := by omega
        have HS := Lib.hid (short_no hlt (by omega))
        clear h6
        go_wp2_with fail
        go_ret
        exact ⟨by rw [HS.out]; rfl, HB3.out⟩
      · have h6i : ¬ (600 : Int) < (L[k].s.length : Int) := by omega
        have H6 : Hid (L[k].s.length ≤ 600) := by show _ ≤ _; omega
        clear h6
        go_wp2_with fail
        go_roundw
        case rel =>
          refine ⟨k + 1, by omega, by go_num, ?_, HB3.out⟩
          intro v hv
          rw [List.take_succ_eq_append_getElem hlt] at hv
          rcases List.mem_append.1 hv with hv | hv
          · exact HJ.out.1 v hv
          · obtain rfl := List.mem_singleton.1 hv; exact H6.out
        case measure => simp [intOf]; omega
    · obtain rfl : k = L.length := by omega
      have HS : Hid (shortB L = true) := by
        show _ = _
        have := HJ.out.1
        rw [List.take_length] at this
        simp only [shortB, Bool.and_eq_true, decide_eq_true_eq, List.all_eq_true]
        exact ⟨hL20, this⟩
      go_wp2_with fail
      go_ret
      exact ⟨by rw [HS.out]; rfl, HJ.out.2⟩
end Go.Proofs.YtknfnhmkiooifaaDoor
end

section
/-
  The walk of dowserlaw08.KeyOrders: whatever the lists of values, it answers true.
-/
namespace Go.Proofs.YtknfnhmkiooifaaDoor
set_option linter.unusedSimpArgs false
set_option linter.unusedVariables false
open Go.RowKit

namespace Key
theorem real0_idem (f : Nat) : real0 (real0 f) = real0 f := by
  unfold real0
  split
  · rfl
  · rfl
theorem dclean_idem (v : Va) : dclean (dclean v) = dclean v := by
  by_cases k1 : v.k = 1
  · rw [Va.dclean1 k1]; rfl
  by_cases k2 : v.k = 2
  · rw [Va.dclean2 k2]; show (⟨2, 0, real0 (real0 v.f), []⟩ : Va) = _; rw [real0_idem]
  by_cases k3 : v.k = 3
  · rw [Va.dclean3 k3]; rfl
  by_cases k4 : v.k = 4
  · rw [Va.dclean4 k4]; by_cases hn : v.n = 0 <;> simp [hn] <;> rfl
  · rw [Va.dclean0 k1 k2 k3 k4]; rfl
theorem wantOf_snoc (l : List (Va × Va)) (p : Va × Va) : wantOf (l ++ [p]) = if wantOf l = 0 then vord p.1 p.2 else wantOf l := by
  induction l with
  | nil =>
    obtain ⟨a, b⟩ := p
    simp only [List.nil_append, wantOf, if_true]
    split
    · next h => rw [h]
    · rfl
  | cons q l ih =>
    obtain ⟨a, b⟩ := q
    simp only [List.cons_append, wantOf]
    split
    · exact ih
    · rfl
/-- Pairs of clean values. -/
def prs (L M : List Va) : List (Va × Va) := (L.map dclean).zip (M.map dclean)
theorem prs_snoc {L M : List Va} (h : L.length = M.length) {k : Nat} (hk : k < L.length) (hk2 : k < M.length) : (prs L M).take (k + 1) = (prs L M).take k ++ [(dclean L[k], dclean M[k])] := by
  have hl : k < (prs L M).length := by simp [prs]; omega
  rw [List.take_succ_eq_append_getElem hl]
  simp [prs]
theorem prs_fst {L M : List Va} (h : L.length = M.length) : (prs L M).map (·.1) = L.map dclean := by
  unfold prs
  exact List.map_fst_zip (by simp [h])
theorem prs_snd {L M : List Va} (h : L.length = M.length) : (prs L M).map (·.2) = M.map dclean := by
  unfold prs
  exact List.map_snd_zip (by simp [h])
/-- Of like kinds, so far. -/
def likes (l : List (Va × Va)) : Prop := ∀ p ∈ l, p.1.ok ∧ p.2.ok ∧ Clean p.1 ∧ Clean p.2 ∧ (p.1.k = p.2.k ∨ p.1.k = 0 ∨ p.2.k = 0)
theorem vord_le (a b : Va) : -1 ≤ vord a b ∧ vord a b ≤ 1 := by unfold vord; (repeat' split) <;> omega
end Key
theorem dclean_at (w : World) (args : Array Value) (v : Va) (hv : v.ok) (h : args = #[v.v]) : Calls Tryd.prog 11 args w (RetV w (Key.dclean v)) := by
  subst h
  exact dclean_any w v hv
theorem wpList_load_va_is {w : World} {ops : Array Oper} {rest : List Oper} {o : Oper} {a : Act} {Q : Exit → Act → World → Prop} (hgd : o.guard = none) (x : Operand) (hop : o.op = .load 27 x) {b off : Nat} {L : List Va} (hr : ERow eVa w (some ⟨b, off, none⟩) L) {j : Nat} (hj : j < L.length) (p : Va) (hp : L[j] = p) (hx : a.eval x = .pointer (some ⟨b, off + j * 4, none⟩))
    (h : wpList Tryd.prog ops Q rest (a.put o.dst p.v) w) : wpList Tryd.prog ops Q (o :: rest) a w := by
  subst hp
  exact wpList_load_va_at hgd x hop hr hj hx h
set_option maxRecDepth 20000 in
set_option maxHeartbeats 16000000 in
theorem keyOrders_walk (w : World) (v0 : Value) (h0 : ValsW w v0) (v1 : Value) (h1 : ValsW w v1) : Calls Tryd.prog 3 #[v0, v1] w fun e w' => e = .returned (.bool true) ∧ Below w.heap.size w w' := by
  obtain ⟨A, c, L, rfl, hra, hia, hca, hma⟩ := h0
  obtain ⟨B, d, M, rfl, hrb, hib, hcb, hmb⟩ := h1
  have HA := Lib.hid hra
  have HB := Lib.hid hrb
  have HIA := Lib.hid hia
  have HIB := Lib.hid hib
  have HCA := Lib.hid (And.intro hca hma)
  have HCB := Lib.hid (And.intro hcb hmb)
  clear hra hrb hia hib hca hma hcb hmb
  go_enter Tryd.func3, Tryd.ntmps3
  go_wp2_with fail
  refine (klives_any _).mono ?_
  rintro e w1 ⟨rfl, hb1⟩
  have H1 := Lib.hid hb1
  clear hb1
  go_wp2_with fail
  refine (short_any _ A c L (HA.out.below H1.out) HIA.out HCA.out.1 HCA.out.2).mono ?_
  rintro e w2 ⟨rfl, hb2⟩
  have H2 := Lib.hid (H1.out.then hb2)
  clear hb2 H1
  cases hs : shortB L with
  | false =>
    go_wp2_with fail
    refine (klives_any _).mono ?_
    rintro e w3 ⟨rfl, hb3⟩
    go_wp2_with fail
    go_ret
    exact ⟨rfl, H2.out.then hb3⟩
  | true =>
  have HFA := Lib.hid (few_of hs HIA.out)
  clear hs
  go_wp2_with fail
  refine (short_any _ B d M (HB.out.below H2.out) HIB.out HCB.out.1 HCB.out.2).mono ?_
  rintro e w3 ⟨rfl, hb3⟩
  have H3 := Lib.hid (H2.out.then hb3)
  clear hb3 H2
  cases hs : shortB M with
  | false =>
    go_wp2_with fail
    refine (klives_any _).mono ?_
    rintro e w4 ⟨rfl, hb4⟩
    go_wp2_with fail
    go_ret
    exact ⟨rfl, H3.out.then hb4⟩
  | true =>
  have HFB := Lib.hid (few_of hs HIB.out)
  clear hs
  by_cases hlm : L.length = M.length
  · have HLM := Lib.hid hlm
    have hM20 := HFB.out.2.1
    have hi1 : ((L.length : Nat) : Int) = (M.length : Int) := by omega
    rw [hlm]
    clear hlm hi1
    go_wp2_with fail
    go_loopw [5, 34] (fun wv iv wr => ∃ k : Nat, k ≤ M.length ∧ iv = .int .i64 (k : Int) ∧ wv = .int .i64 (Key.wantOf ((Key.prs L M).take k)) ∧ Hid (Key.likes ((Key.prs L M).take k) ∧ Below w.heap.size w wr)) (fun _ iv _ => M.length - (intOf iv).toNat)
    case atStart => exact ⟨0, Nat.zero_le _, rfl, rfl, by intro p hp; simp at hp, H3.out⟩
    case round =>
      obtain ⟨k, hk, rfl, rfl, HJ⟩ := hrel
      by_cases hlt : k < M.length
      · have hii : (k : Int) < (M.length : Int) := by omega
        have hlt2 : k < L.length := by rw [HLM.out]; exact hlt
        obtain ⟨ba, oa, rfl, hba, -⟩ := HA.out.at_ hlt2
        obtain ⟨bb, ob, rfl, hbb, -⟩ := HB.out.at_ hlt
        have HO := Lib.hid (And.intro (HIA.out _ (List.getElem_mem hlt2)).ok (HIB.out _ (List.getElem_mem hlt)).ok)
        go_upto_region 7 with fail
        have hii2 : (k : Int) < (L.length : Int) := by omega
        go_cut [7, 8] (fun v7 v8 wx => ∃ g7 g8 : Nat, v7 = .pointer (some ⟨g7, 0, none⟩) ∧ v8 = .pointer (some ⟨g8, 0, none⟩) ∧ Hid (Blk wx g7 27 (Key.dclean L[k]).cells ∧ Blk wx g8 27 (Key.dclean M[k]).cells ∧ Below w.heap.size w wx))
        case first =>
          have HAX : Hid (∀ W, Below w.heap.size w W → ERow eVa W (some ⟨ba, oa, none⟩) L) := fun W h => HA.out.below h
          have HBX : Hid (∀ W, Below w.heap.size w W → ERow eVa W (some ⟨bb, ob, none⟩) M) := fun W h => HB.out.below h
          have hB := HJ.out.2.trans ((Below.refl wr.heap.size wr).drewR.mono HJ.out.2.size)
          have hwz := HJ.out.2.size
          obtain ⟨p, hp⟩ : ∃ p, L[k] = p := ⟨_, rfl⟩
          obtain ⟨q, hq⟩ : ∃ q, M[k] = q := ⟨_, rfl⟩
          have HP := Lib.hid hp
          have HQ := Lib.hid hq
          have HO2 : Hid (p.ok ∧ q.ok) := by show _ ∧ _; rw [← hp, ← hq]; exact HO.out
          clear hp hq HO
          have hwd : wr.drew.heap.size = wr.heap.size := rfl
          clear HIA HIB HCA HCB HFA HFB H3 hM20 hk HJ hii hii2 hba hbb HLM
          refine wp_region_plan (.take 0 (.take 1 (.take 2 (.take 3 (.take 5 (.take 6 (.take 7 (.take 8 (.fork (.fork (.run 4 [5, 6, 7, 8] (.fork (.fork (.run 9 [] (.fork (.run 10 [] (.run 11 [] (.run 12 [] (.run 13 [] .fin)))) (.run 11 [] (.run 10 [] (.run 12 [] (.run 13 [] .fin)))))) (.run 10 [5, 6, 7, 8] (.fork (.run 9 [] (.run 11 [] (.run 12 [] (.run 13 [] .fin)))) (.run 11 [5, 6, 7, 8] (.run 9 [] (.run 12 [] (.run 13 [] .fin))))))) (.run 11 [5, 6, 7, 8] (.fork (.run 9 [] (.run 10 [] (.run 12 [] (.run 13 [] .fin)))) (.run 10 [5, 6, 7, 8] (.run 9 [] (.run 12 [] (.run 13 [] .fin)))))))) (.run 10 [0, 1, 2, 3, 5, 6, 7, 8] (.fork (.run 4 [5, 6, 7, 8] (.fork (.run 9 [] (.run 11 [] (.run 12 [] (.run 13 [] .fin)))) (.run 11 [5, 6, 7, 8] (.run 9 [] (.run 12 [] (.run 13 [] .fin)))))) (.run 11 [0, 1, 2, 3, 5, 6, 7, 8] (.run 4 [5, 6, 7, 8] (.run 9 [] (.run 12 [] (.run 13 [] .fin)))))))) (.run 11 [0, 1, 2, 3, 5, 6, 7, 8] (.fork (.run 4 [5, 6, 7, 8] (.fork (.run 9 [] (.run 10 [] (.run 12 [] (.run 13 [] .fin)))) (.run 10 [5, 6, 7, 8] (.run 9 [] (.run 12 [] (.run 13 [] .fin)))))) (.run 10 [0, 1, 2, 3, 5, 6, 7, 8] (.run 4 [5, 6, 7, 8] (.run 9 [] (.run 12 [] (.run 13 [] .fin)))))))))))))))) (by kernel_rfl) (by kernel_rfl) (by kernel_rfl) (by kernel_rfl) ?_
          repeat' (first | (refine hZ _ _ ?_; clear hZ) | (refine hZ _ ?_; clear hZ) | (refine hZ ?_; clear hZ) | rw [again_nil] | (rw [walk_fin]; go_wp2_with fail; go_meet; (case rel => exact ⟨_, _, rfl, rfl, by show _ ∧ _ ∧ _; rw [HP.out, HQ.out]; exact ⟨h7, h8, hB⟩⟩)) | (rw [walk_fork]; refine ⟨?_, ?_⟩) | ((first | rw [walk_take] | rw [walk_run] | rw [again_cons]); intro Z hZ; simp only [sel, List.getElem?_toArray, List.getElem?_cons_zero, List.getElem?_cons_succ]; go_wp2_with (first | (refine wpList_load_va_is rfl (.tmp 39) rfl (HAX.out _ hB) hlt2 p HP.out rfl ?_) | (refine wpList_load_va_is rfl (.tmp 44) rfl (HBX.out _ hB) hlt q HQ.out rfl ?_) | (refine wpList_alloc_va (o := ⟨some 7, _, _, _, _, _⟩) rfl rfl ?_; intro W h7 hz7 hn; (try replace h8 := h8.below hn); replace hB := hB.trans (hn.mono hB.size)) | (refine wpList_alloc_va (o := ⟨some 8, _, _, _, _, _⟩) rfl rfl ?_; intro W h8 hz8 hn; (try replace h7 := h7.below hn); replace hB := hB.trans (hn.mono hB.size)) | (refine wpList_store_va rfl rfl (.tmp 7) (.tmp 41) rfl _ rfl (Key.dclean p) rfl h7 ?_; intro W h7 hg; replace h8 := h8.grown hg (by simp only [ne_eq, Option.some.injEq]; omega); have hnz2 := hg.size; replace hB := below_of_grown hB hg (by omega) hB.size) | (refine wpList_store_va rfl rfl (.tmp 8) (.tmp 46) rfl _ rfl (Key.dclean q) rfl h8 ?_; intro W h8 hg; replace h7 := h7.grown hg (by simp only [ne_eq, Option.some.injEq]; omega); replace hB := below_of_grown hB hg (by omega) hB.size))) | (refine (dclean_at _ _ p HO2.out.1 (by with_reducible rfl)).mono ?_; rintro e W4 ⟨rfl, hn⟩; have hnz := hn.size; (try replace h7 := h7.below hn); (try replace h8 := h8.below hn); replace hB := hB.trans (hn.mono hB.size); clear hn; go_wp2_with fail) | (refine (dclean_at _ _ q HO2.out.2 (by with_reducible rfl)).mono ?_; rintro e W4 ⟨rfl, hn⟩; have hnz := hn.size; (try replace h7 := h7.below hn); (try replace h8 := h8.below hn); replace hB := hB.trans (hn.mono hB.size); clear hn; go_wp2_with fail))
        case rest =>
          obtain ⟨g7, g8, rfl, rfl, HX⟩ := hcut
          have hx := HX.out.1
          have hy := HX.out.2.1
          obtain ⟨c0, -, -, -, -⟩ := Blk.c4 hx
          obtain ⟨d0, -, -, -, -⟩ := Blk.c4 hy
          have HSN := Lib.hid (Key.prs_snoc HLM.out hlt2 hlt)
          have HWS := Lib.hid (Key.wantOf_snoc ((Key.prs L M).take k) (Key.dclean L[k], Key.dclean M[k]))
          have HLX : Hid ((Key.dclean L[k]).k = (Key.dclean M[k]).k ∨ (Key.dclean L[k]).k = 0 ∨ (Key.dclean M[k]).k = 0 → Key.likes ((Key.prs L M).take (k + 1))) := fun h => by
            rw [HSN.out]
            intro p hp
            rcases List.mem_append.1 hp with hp | hp
            · exact HJ.out.1 p hp
            · obtain rfl := List.mem_singleton.1 hp
              exact ⟨Key.dclean_ok HO.out.1, Key.dclean_ok HO.out.2, Key.clean_of _, Key.clean_of _, h⟩
          have HOD := Lib.hid (And.intro (Key.dclean_ok HO.out.1) (Key.dclean_ok HO.out.2))
          have HID := Lib.hid (And.intro (Key.dclean_idem L[k]) (Key.dclean_idem M[k]))
          generalize hX : Key.dclean L[k] = x at *
          generalize hY : Key.dclean M[k] = y at *
          clear hX hY
          by_cases hlike : x.k = y.k ∨ x.k = 0 ∨ y.k = 0
          · have HLK := Lib.hid (HLX.out hlike)
            by_cases hw : Key.wantOf ((Key.prs L M).take k) = 0
            · have HW2 : Hid (Key.wantOf ((Key.prs L M).take (k + 1)) = Key.vord x y) := by show _ = _; rw [HSN.out, HWS.out, if_pos hw]
              rw [hw]
              clear hw
              have hord := vorder_any wc x y HOD.out.1 HOD.out.2
              rw [HID.out.1, HID.out.2] at hord
              have HORD := Lib.hid hord
              clear hord
              rcases hlike with h | h | h
              · rw [h] at c0
                clear h
                go_wp2_with (first | (refine wpList_load_va rfl (.tmp 7) rfl _ rfl hx ?_) | (refine wpList_load_va rfl (.tmp 8) rfl _ rfl hy ?_))
                all_goals
                  refine HORD.out.mono ?_
                  rintro e wd ⟨rfl, hbd⟩
                  have HBD := Lib.hid (HX.out.2.2.then hbd)
                  clear hbd
                  go_wp2_with fail
                  go_roundw
                  case rel => exact ⟨k + 1, by omega, by go_num, by rw [HW2.out], HLK.out, HBD.out⟩
                  case measure => simp [intOf]; omega
              · rw [h] at c0
                clear h
                go_wp2_with (first | (refine wpList_load_va rfl (.tmp 7) rfl _ rfl hx ?_) | (refine wpList_load_va rfl (.tmp 8) rfl _ rfl hy ?_))
                all_goals
                  refine HORD.out.mono ?_
                  rintro e wd ⟨rfl, hbd⟩
                  have HBD := Lib.hid (HX.out.2.2.then hbd)
                  clear hbd
                  go_wp2_with fail
                  go_roundw
                  case rel => exact ⟨k + 1, by omega, by go_num, by rw [HW2.out], HLK.out, HBD.out⟩
                  case measure => simp [intOf]; omega
              · rw [h] at d0
                clear h
                go_wp2_with (first | (refine wpList_load_va rfl (.tmp 7) rfl _ rfl hx ?_) | (refine wpList_load_va rfl (.tmp 8) rfl _ rfl hy ?_))
                all_goals
                  refine HORD.out.mono ?_
                  rintro e wd ⟨rfl, hbd⟩
                  have HBD := Lib.hid (HX.out.2.2.then hbd)
                  clear hbd
                  go_wp2_with fail
                  go_roundw
                  case rel => exact ⟨k + 1, by omega, by go_num, by rw [HW2.out], HLK.out, HBD.out⟩
                  case measure => simp [intOf]; omega
            · have HW2 : Hid (Key.wantOf ((Key.prs L M).take (k + 1)) = Key.wantOf ((Key.prs L M).take k)) := by show _ = _; rw [HSN.out, HWS.out, if_neg hw]
              rcases hlike with h | h | h
              · rw [h] at c0
                clear h
                go_wp2_with fail
                all_goals
                  go_roundw
                  case rel => exact ⟨k + 1, by omega, by go_num, by rw [HW2.out], HLK.out, HX.out.2.2⟩
                  case measure => simp [intOf]; omega
              · rw [h] at c0
                clear h
                go_wp2_with fail
                all_goals
                  go_roundw
                  case rel => exact ⟨k + 1, by omega, by go_num, by rw [HW2.out], HLK.out, HX.out.2.2⟩
                  case measure => simp [intOf]; omega
              · rw [h] at d0
                clear h
                go_wp2_with fail
                all_goals
                  go_roundw
                  case rel => exact ⟨k + 1, by omega, by go_num, by rw [HW2.out], HLK.out, HX.out.2.2⟩
                  case measure => simp [intOf]; omega
          · have n1 : ¬ x.k = y.k := fun h => hlike (.inl h)
            have n2 : ¬ x.k = 0 := fun h => hlike (.inr (.inl h))
            have n3 : ¬ y.k = 0 := fun h => hlike (.inr (.inr h))
            have m1 : (x.k != y.k) = true := by simp [n1]
            have m2 : (x.k != 0) = true := by simp [n2]
            have m3 : (y.k != 0) = true := by simp [n3]
            have m4 : (x.k == y.k) = false := by simp [n1]
            have m5 : (x.k == 0) = false := by simp [n2]
            have m6 : (y.k == 0) = false := by simp [n3]
            clear hlike
            go_wp2_with fail
            go_ret
            exact ⟨rfl, HX.out.2.2⟩
      · obtain rfl : k = M.length := by omega
        have hpl : (Key.prs L M).take M.length = Key.prs L M := List.take_of_length_le (by simp [Key.prs]; omega)
        rw [hpl] at HJ ⊢
        have hka := Key.keys_ahead (Key.prs L M) HJ.out.1
        rw [Key.prs_fst HLM.out, Key.prs_snd HLM.out, ← Key.key_clean, ← Key.key_clean] at hka
        have HKA := Lib.hid hka
        have HLX : Hid ((Key.key L).length ≤ 2003000) := Nat.le_trans (key_len L HFA.out.1.short) (by have := HFA.out.2.1; omega)
        have HLY : Hid ((Key.key M).length ≤ 2003000) := Nat.le_trans (key_len M HFB.out.1.short) (by have := HFB.out.2.1; omega)
        have HKX := Lib.hid (key_any wr.drew A c L ((HA.out.below HJ.out.2).below (Below.refl _ _).drewR) HFA.out.1)
        rw [HLM.out] at HKX
        have HKY : Hid (∀ wq, Below w.heap.size w wq → Calls Tryd.prog 13 #[.slice B M.length d] wq (RetB wq (Key.key M))) := fun wq h => key_any wq B d M (HB.out.below h) HFB.out.1
        clear hka hpl hk hlt
        generalize Key.key L = X at *
        generalize Key.key M = Y at *
        generalize Key.wantOf (Key.prs L M) = m at *
        go_upto_region 13 with fail
        refine wp_region_plan (.take 0 (.take 3 (.run 1 [3] (.take 2 (.run 4 [2] (.take 5 (.take 6 (.take 7 .fin)))))))) (by kernel_rfl) (by kernel_rfl) (by kernel_rfl) (by kernel_rfl) ?_
        repeat' (first | (refine hZ _ _ ?_; clear hZ) | (refine hZ _ ?_; clear hZ) | (refine hZ ?_; clear hZ) | rw [again_nil] | rw [walk_fin] | ((first | rw [walk_take] | rw [walk_run] | rw [again_cons]); intro Z hZ; simp only [sel, List.getElem?_toArray, List.getElem?_cons_zero, List.getElem?_cons_succ]; go_wp2_with (fail)))
        refine HKX.out.mono ?_
        rintro e w5 ⟨A5, c5, rfl, ho5, hb5⟩
        have H5 := Lib.hid (And.intro ho5.row (HJ.out.2.then ((Below.refl _ _).drewR.then hb5)))
        have hs5 : ∀ c', (convert 30 9 (.slice A5 X.length c')).run Tryd.prog w5 = .ok (.string ⟨X.toArray⟩) w5 := fun c' => run_string_bytes w5 c' H5.out.1
        clear ho5 hb5
        go_wp2_with fail
        repeat' (first | (refine hZ _ _ ?_; clear hZ) | (refine hZ _ ?_; clear hZ) | (refine hZ ?_; clear hZ) | rw [again_nil] | rw [walk_fin] | ((first | rw [walk_take] | rw [walk_run] | rw [again_cons]); intro Z hZ; simp only [sel, List.getElem?_toArray, List.getElem?_cons_zero, List.getElem?_cons_succ]; go_wp2_with (fail)))
        refine (HKY.out _ H5.out.2).mono ?_
        rintro e w6 ⟨A6, c6, rfl, ho6, hb6⟩
        have H6 := Lib.hid (And.intro (H5.out.1.below hb6) (And.intro ho6.row (H5.out.2.then hb6)))
        have hs6 : ∀ c', (convert 30 9 (.slice A5 X.length c')).run Tryd.prog w6 = .ok (.string ⟨X.toArray⟩) w6 := fun c' => run_string_bytes w6 c' H6.out.1
        have hs7 : ∀ c', (convert 30 9 (.slice A6 Y.length c')).run Tryd.prog w6 = .ok (.string ⟨Y.toArray⟩) w6 := fun c' => run_string_bytes w6 c' H6.out.2.1
        clear ho6 hb6 hs5
        go_wp2_with fail
        repeat' (first | (refine hZ _ _ ?_; clear hZ) | (refine hZ _ ?_; clear hZ) | (refine hZ ?_; clear hZ) | rw [again_nil] | rw [walk_fin] | ((first | rw [walk_take] | rw [walk_run] | rw [again_cons]); intro Z hZ; simp only [sel, List.getElem?_toArray, List.getElem?_cons_zero, List.getElem?_cons_succ]; go_wp2_with (fail)))
        have hzx := slen_size X
        have hzy := slen_size Y
        have hlx := HLX.out
        have hly := HLY.out
        clear hs6 hs7
        go_upto_region 15 with fail
        have hn : (if Y.length < X.length then (Y.length : Int) else (X.length : Int)) = ((min X.length Y.length : Nat) : Int) := by split <;> omega
        rw [hn]
        have HN : Hid (min X.length Y.length = min X.length Y.length) := rfl
        generalize hnn : min X.length Y.length = n at *
        have hnx : n ≤ X.length := by omega
        have hny : n ≤ Y.length := by omega
        have hcx := cut_head X n
        have hcy := cut_head Y n
        have htx := txt_list (X.take n)
        have hty := txt_list (Y.take n)
        have hax := txt_list X
        have hay := txt_list Y
        clear hn hzx hzy
        rcases HKA.out with ⟨h1, h2⟩ | ⟨h1, h2⟩ | ⟨h1, h2⟩
        · rw [h1]
          subst h2
          have hl := Key.less_irrefl X
          have he : (X == X) = true := by simp
          clear hnn
          refine wp_region_plan (.take 0 (.take 1 (.take 2 (.take 3 (.take 4 (.take 5 (.take 6 (.take 7 (.take 8 (.take 9 (.take 10 .fin))))))))))) (by kernel_rfl) (by kernel_rfl) (by kernel_rfl) (by kernel_rfl) ?_
          repeat' (first | (refine hZ _ _ ?_; clear hZ) | (refine hZ _ ?_; clear hZ) | (refine hZ ?_; clear hZ) | rw [again_nil] | rw [walk_fin] | ((first | rw [walk_take] | rw [walk_run] | rw [again_cons]); intro Z hZ; simp only [sel, List.getElem?_toArray, List.getElem?_cons_zero, List.getElem?_cons_succ]; go_wp2_with (fail)))
          go_wp2_with fail
          go_ret
          exact ⟨rfl, H6.out.2.2.drewR⟩
        · rw [h1]
          have hl := h2.less.1
          have hne : (X.take n == Y.take n) = false := by rw [beq_eq_false_iff_ne]; exact h2.ne_take n hnn.symm
          clear hnn h2
          refine wp_region_plan (.take 0 (.take 1 (.take 2 (.take 3 (.take 4 (.take 5 (.take 6 (.take 7 (.take 8 (.take 9 (.take 10 .fin))))))))))) (by kernel_rfl) (by kernel_rfl) (by kernel_rfl) (by kernel_rfl) ?_
          repeat' (first | (refine hZ _ _ ?_; clear hZ) | (refine hZ _ ?_; clear hZ) | (refine hZ ?_; clear hZ) | rw [again_nil] | rw [walk_fin] | ((first | rw [walk_take] | rw [walk_run] | rw [again_cons]); intro Z hZ; simp only [sel, List.getElem?_toArray, List.getElem?_cons_zero, List.getElem?_cons_succ]; go_wp2_with (fail)))
          go_wp2_with fail
          go_ret
          exact ⟨rfl, H6.out.2.2.drewR⟩
        · rw [h1]
          have hl := h2.less.2
          have hne : (X.take n == Y.take n) = false := by rw [beq_eq_false_iff_ne]; exact (h2.ne_take n (by rw [Nat.min_comm]; exact hnn.symm)).symm
          have he : (X == Y) = false := by rw [beq_eq_false_iff_ne]; exact h2.ne.symm
          clear hnn h2
          refine wp_region_plan (.take 0 (.take 1 (.take 2 (.take 3 (.take 4 (.take 5 (.take 6 (.take 7 (.take 8 (.take 9 (.take 10 .fin))))))))))) (by kernel_rfl) (by kernel_rfl) (by kernel_rfl) (by kernel_rfl) ?_
          repeat' (first | (refine hZ _ _ ?_; clear hZ) | (refine hZ _ ?_; clear hZ) | (refine hZ ?_; clear hZ) | rw [again_nil] | rw [walk_fin] | ((first | rw [walk_take] | rw [walk_run] | rw [again_cons]); intro Z hZ; simp only [sel, List.getElem?_toArray, List.getElem?_cons_zero, List.getElem?_cons_succ]; go_wp2_with (fail)))
          go_wp2_with fail
          go_ret
          exact ⟨rfl, H6.out.2.2.drewR⟩
  · have HLM := Lib.hid hlm
    have hlm2 : ¬ ((L.length : Nat) : Int) = (M.length : Int) := by omega
    clear hlm
    go_wp2_with fail
    refine (klives_any _).mono ?_
    rintro e w4 ⟨rfl, hb4⟩
    go_wp2_with fail
    go_ret
    exact ⟨rfl, H3.out.then hb4⟩
end Go.Proofs.YtknfnhmkiooifaaDoor
end

section
/-
  The contract of key.Row.
-/
namespace Go.Proofs.YtknfnhmkiooifaaDoor
set_option linter.unusedSimpArgs false
set_option linter.unusedVariables false
open Go.RowKit

namespace Key
/-- A clean value's bytes in a row. -/
def pay (v : Va) : List UInt8 :=
  if v.k = 1 then Wire.num (Wire.ofInt v.n) else if v.k = 2 then Wire.num (pbits v.f) else if v.k = 3 then Wire.text v.s else if v.k = 4 then [if v.n = 1 then 1 else 0] else []
def rowOf (v : Va) : List UInt8 := UInt8.ofNat v.k.toNat :: pay v
def row (L : List Va) : List UInt8 := Wire.num L.length ++ L.flatMap fun v => rowOf (clean v)
theorem real1_idem (f : Nat) : real1 (real1 f) = real1 f := by
  unfold real1
  split
  · rfl
  · next h =>
    split
    · rfl
    · rfl
theorem clean_idem (v : Va) : clean (clean v) = clean v := by
  by_cases k1 : v.k = 1
  · rw [Va.clean1 k1]; rfl
  by_cases k2 : v.k = 2
  · rw [Va.clean2 k2]; show (⟨2, 0, real1 (real1 v.f), []⟩ : Va) = _; rw [real1_idem]
  by_cases k3 : v.k = 3
  · rw [Va.clean3 k3]; rfl
  by_cases k4 : v.k = 4
  · rw [Va.clean4 k4]; by_cases hn : v.n = 0 <;> simp [hn] <;> rfl
  · rw [Va.clean0 k1 k2 k3 k4]; rfl
theorem row_snoc (L : List Va) (k : Nat) (hk : k < L.length) : (L.take (k + 1)).flatMap (fun v => rowOf (clean v)) = (L.take k).flatMap (fun v => rowOf (clean v)) ++ rowOf (clean L[k]) := by
  rw [List.take_succ_eq_append_getElem hk, List.flatMap_append]
  simp
theorem text_len (s : List UInt8) : (Wire.text s).length ≤ 10 + s.length := by
  unfold Wire.text
  rw [List.length_append]
  have := (Wire.num_length s.length).2
  omega
theorem rowOf_len (v : Va) (h : v.s.length ≤ 1000) : (rowOf (clean v)).length ≤ 1011 := by
  by_cases k1 : v.k = 1
  · rw [Va.clean1 k1]; have := (Wire.num_length (Wire.ofInt v.n)).2; simp [rowOf, pay]; omega
  by_cases k2 : v.k = 2
  · rw [Va.clean2 k2]; have := (Wire.num_length (pbits (real1 v.f))).2; simp [rowOf, pay]; omega
  by_cases k3 : v.k = 3
  · rw [Va.clean3 k3]; have := text_len v.s; simp [rowOf, pay]; omega
  by_cases k4 : v.k = 4
  · rw [Va.clean4 k4]; simp [rowOf, pay]
  · rw [Va.clean0 k1 k2 k3 k4]; simp [rowOf, pay, nul]
theorem rows_len (L : List Va) (h : ∀ v ∈ L, v.s.length ≤ 1000) : (L.flatMap fun v => rowOf (clean v)).length ≤ 1011 * L.length := by
  induction L with
  | nil => simp
  | cons v L ih =>
    have h1 := rowOf_len v (h v (by simp))
    have h2 := ih fun u hu => h u (by simp [hu])
    rw [List.flatMap_cons, List.length_append, List.length_cons]
    omega
end Key
set_option maxRecDepth 20000 in
set_option maxHeartbeats 8000000 in
theorem row_any (w : World) (A : Option Addr) (c : Nat) (L : List Va) (hr : ERow eVa w A L) (hL : Few L) : Calls Tryd.prog 20 #[.slice A L.length c] w (RetB w (Key.row L)) := by
  have HR := Lib.hid hr
  have HL := Lib.hid hL
  have hn := hL.len
  clear hr hL
  go_enter Tryd.func20, Tryd.ntmps20
  go_wp2_with fail
  refine (wnum_any _ L.length (by have := two64_eq; omega)).mono ?_
  rintro e w1 ⟨A1, c1, rfl, ho1, hb1⟩
  have HI : Hid (BOwn w1 w.heap.size A1 c1 (Wire.num L.length ++ (L.take 0).flatMap fun v => Key.rowOf (Key.clean v)) ∧ Below w.heap.size w w1) := ⟨by simpa using ho1, hb1⟩
  have hln : (Wire.num L.length).length = (Wire.num L.length ++ (L.take 0).flatMap fun v => Key.rowOf (Key.clean v)).length := by simp
  rw [hln]
  clear ho1 hb1 hln
  go_wp2_with fail
  go_loopw [3, 12] (fun bv_ iv wr => ∃ (k : Nat) (A1 : Option Addr) (c1 : Nat), k ≤ L.length ∧ bv_ = .slice A1 (Wire.num L.length ++ (L.take k).flatMap fun v => Key.rowOf (Key.clean v)).length c1 ∧ iv = .int .i64 (k : Int) ∧ Hid (BOwn wr w.heap.size A1 c1 (Wire.num L.length ++ (L.take k).flatMap fun v => Key.rowOf (Key.clean v)) ∧ Below w.heap.size w wr)) (fun _ iv _ => L.length - (intOf iv).toNat)
  case atStart => exact ⟨0, A1, c1, Nat.zero_le _, by simp, rfl, HI.out⟩
  case round =>
    obtain ⟨k, A1, c1, hk, rfl, rfl, HJ⟩ := hrel
    clear HI
    by_cases hlt : k < L.length
    · have hii : (k : Int) < (L.length : Int) := by omega
      obtain ⟨b, o, rfl, hb, -⟩ := HR.out.at_ hlt
      have hok := Lib.hid (HL.out.ok _ (List.getElem_mem hlt))
      have hsh := Lib.hid (HL.out.short _ (List.getElem_mem hlt))
      have HRW := Lib.hid (HR.out.below HJ.out.2)
      have HS := Lib.hid (Key.row_snoc L k hlt)
      have HPL := Lib.hid (Key.rowOf_len L[k] hsh.out)
      have HKL : Hid ((Wire.num L.length ++ (L.take k).flatMap fun v => Key.rowOf (Key.clean v)).length ≤ 1012000) := by
        show _ ≤ _
        have h1 := Key.rows_len (L.take k) (fun v hv => HL.out.short v (List.mem_of_mem_take hv))
        have h2 := (Wire.num_length L.length).2
        rw [List.length_take] at h1
        rw [List.length_append]
        omega
      generalize hacc : (Wire.num L.length ++ (L.take k).flatMap fun v => Key.rowOf (Key.clean v)) = acc at HJ HKL ⊢
      have HSA : Hid (Wire.num L.length ++ (L.take (k + 1)).flatMap (fun v => Key.rowOf (Key.clean v)) = acc ++ Key.rowOf (Key.clean L[k])) := by show _ = _; rw [HS.out, ← List.append_assoc, hacc]
      clear hacc HS
      go_upto_region 5 with (first | (refine wpList_load_va_at rfl (.tmp 14) rfl HRW.out hlt rfl ?_) | (refine wpList_alloc_va rfl rfl ?_; intro W2 hb2 hz2 hB2) | (refine wpList_store_va rfl rfl (.tmp 5) (.tmp 15) rfl wr.heap.size rfl L[k] rfl hb2 ?_; intro W3 hb3 hg3))
      have hB3 : Below wr.heap.size wr W3 := below_of_grown hB2 hg3 (Nat.le_refl _) (by omega)
      have hz3 := hg3.size
      have hne3 : ∀ a, A1 = some a → a.block ≠ wr.heap.size := fun a ha => by have := (HJ.out.1.block a ha).2; omega
      clear hb2 hB2 hg3
      go_wp2_with (refine wpList_load_va rfl (.tmp 5) rfl wr.heap.size rfl hb3 ?_)
      refine (clean_any _ _ hok.out).mono ?_
      rintro e Wq ⟨rfl, hBq⟩
      have hbq := hb3.below hBq
      have hBq' := hB3.trans (hBq.mono hB3.size)
      have hzq := hBq.size
      clear hb3 hB3 hBq
      go_upto_region 6 with (refine wpList_store_va rfl rfl (.tmp 5) (.tmp 17) rfl wr.heap.size rfl (Key.clean L[k]) rfl hbq ?_; intro Wc hbc hgc)
      have hBc : Below wr.heap.size wr Wc := below_of_grown hBq' hgc (Nat.le_refl _) (by omega)
      have hzc := hgc.size
      have H3 := Lib.hid (And.intro (HJ.out.1.below hBc) (HJ.out.2.then hBc))
      have HBC := Lib.hid hbc
      have hzz : wr.heap.size < Wc.heap.size := by omega
      have HNE := Lib.hid (map_block_ne hne3)
      clear hbq hBq' hgc hBc hzc hzq hz3 hz2 hne3 hbc HJ
      generalize hv : L[k] = v at *
      clear hv
      by_cases k1 : v.k = 1
      · have HC := Lib.hid (Va.clean1 k1)
        have HRO : Hid (Key.rowOf (Key.clean v) = 1 :: Key.pay (Key.clean v)) := by show _ = _; rw [HC.out]; rfl
        have HPY : Hid (Key.pay (Key.clean v) = Wire.num (Wire.ofInt v.n)) := by show _ = _; rw [HC.out]; rfl
        have c0 : Wc.cell? ⟨wr.heap.size, 0, none⟩ = some (.int .i64 1) := by have := HBC.out.c4.1; rw [HC.out] at this; exact this
        have hone : BRow (Wc.alloc (.cells #[.int .u8 1] 5)) (some ⟨Wc.heap.size, 0, none⟩) [1] := BRow.one _ _ _ _ rfl
        have hal := H3.out.1.alloc (.cells #[.int .u8 1] 5)
        have HW0 := Lib.hid H3.out.2.size
        go_upto_region 7 with (at_builtin; refine wpList_append_bytes rfl (.tmp 18) (.tmp 22) rfl _ rfl hal rfl _ rfl hone rfl (by have := HKL.out; simp; omega) (by have := HW0.out; simp; omega) ?_; intro A4 c4 W4 ho4 hb4 hg4 _)
        have hb5 : Blk W4 wr.heap.size 27 (Key.clean v).cells := (HBC.out.alloc (.cells #[.int .u8 1] 5)).grown hg4 HNE.out
        have hbx : Below w.heap.size w W4 := (H3.out.2.trans ((Below.alloc1 Wc _).mono H3.out.2.size)).trans hb4
        have H4 := Lib.hid (And.intro ho4 hbx)
        clear c0 hone hal ho4 hb4 hg4 hbx H3
        rw [HC.out] at hb5
        obtain ⟨c0, c1', c2, c3, -⟩ := Blk.c4 hb5
        clear hb5 HBC
        go_wp2_with fail
        clear c0 c1' c2 c3
        refine (wint_any _ v.n hok.out.n1 hok.out.n2).mono ?_
        rintro e W5 ⟨A5, c5, rfl, ho5, hb5⟩
        have H5 := Lib.hid (And.intro (H4.out.1.below hb5) (And.intro (H4.out.2.then hb5) ho5.row))
        clear ho5 hb5 H4
        have HL5 : Hid ((Wire.num (Wire.ofInt v.n)).length ≤ 1010) := by show _ ≤ _; have := HPL.out; rw [HRO.out, List.length_cons, HPY.out] at this; first | omega | (simp; done)
        go_wp2_with (at_builtin; refine wpList_append_bytes rfl (.tmp 28) (.tmp 31) rfl _ rfl H5.out.1 (by simp) _ rfl H5.out.2.2 rfl (by have := HKL.out; have := HL5.out; rw [List.length_append]; simp; omega) H5.out.2.1.size ?_; intro A6 c6 W6 ho6 hb6 _ _)
        have HO6 := Lib.hid (And.intro ho6 (H5.out.2.1.trans hb6))
        clear ho6 hb6 H5
        go_roundw
        case rel =>
          refine ⟨k + 1, A6, c6, by omega, ?_, by go_num, ?_⟩
          · rw [HSA.out, HRO.out, HPY.out]; simp <;> omega
          · rw [HSA.out, HRO.out, HPY.out]
            refine ⟨?_, HO6.out.2⟩
            have := HO6.out.1
            rw [List.append_assoc, List.singleton_append] at this
            exact this
        case measure => simp [intOf]; omega
      by_cases k2 : v.k = 2
      · have HC := Lib.hid (Va.clean2 k2)
        have HRO : Hid (Key.rowOf (Key.clean v) = 2 :: Key.pay (Key.clean v)) := by show _ = _; rw [HC.out]; rfl
        have HPY : Hid (Key.pay (Key.clean v) = Wire.num (Key.pbits (Key.real1 v.f))) := by show _ = _; rw [HC.out]; rfl
        have HOF : Hid (Va.ok ⟨2, 0, Key.real1 v.f, []⟩) := ⟨by show (-9223372036854775808 : Int) ≤ 2; decide, by show (2 : Int) ≤ 9223372036854775807; decide, by show (-9223372036854775808 : Int) ≤ 0; decide, by show (0 : Int) ≤ 9223372036854775807; decide, Key.real1_lt hok.out.f1⟩
        have HPP : Hid (Key.part (Key.clean ⟨2, 0, Key.real1 v.f, []⟩) = 1 :: Wal.hi8 (Key.pbits (Key.real1 v.f))) := by
          show _ = _
          rw [Va.clean2 rfl, Key.part_real rfl]
          show 1 :: Wal.hi8 (Key.pbits (Key.real1 (Key.real1 v.f))) = _
          rw [Key.real1_idem]
        have HPT : Hid (Key.pbits (Key.real1 v.f) < two64) := Key.pbits_top (Key.real1_lt hok.out.f1)
        have c0 : Wc.cell? ⟨wr.heap.size, 0, none⟩ = some (.int .i64 2) := by have := HBC.out.c4.1; rw [HC.out] at this; exact this
        have hone : BRow (Wc.alloc (.cells #[.int .u8 2] 5)) (some ⟨Wc.heap.size, 0, none⟩) [2] := BRow.one _ _ _ _ rfl
        have hal := H3.out.1.alloc (.cells #[.int .u8 2] 5)
        have HW0 := Lib.hid H3.out.2.size
        go_upto_region 7 with (at_builtin; refine wpList_append_bytes rfl (.tmp 18) (.tmp 22) rfl _ rfl hal rfl _ rfl hone rfl (by have := HKL.out; simp; omega) (by have := HW0.out; simp; omega) ?_; intro A4 c4 W4 ho4 hb4 hg4 _)
        have hb5 : Blk W4 wr.heap.size 27 (Key.clean v).cells := (HBC.out.alloc (.cells #[.int .u8 2] 5)).grown hg4 HNE.out
        have hbx : Below w.heap.size w W4 := (H3.out.2.trans ((Below.alloc1 Wc _).mono H3.out.2.size)).trans hb4
        have H4 := Lib.hid (And.intro ho4 hbx)
        clear c0 hone hal ho4 hb4 hg4 hbx H3
        rw [HC.out] at hb5
        obtain ⟨c0, c1', c2, c3, -⟩ := Blk.c4 hb5
        clear HBC
        go_wp2_with (refine wpList_load_va rfl (.tmp 5) rfl wr.heap.size rfl hb5 ?_)
        clear hb5
        clear c0 c1' c2 c3
        refine (part_any _ ⟨2, 0, Key.real1 v.f, []⟩ HOF.out (Nat.zero_le _)).mono ?_
        rintro e Wp ⟨Ap, cp, rfl, hrp, hcp, hBp⟩
        have H4b := Lib.hid (And.intro (H4.out.1.below hBp) (H4.out.2.then hBp))
        clear H4 hBp
        have H4 := H4b
        clear H4b
        rw [HPP.out] at hrp hcp ⊢
        have h9 : (1 :: Wal.hi8 (Key.pbits (Key.real1 v.f))).length = 9 := by simp [Wal.hi8_length]
        rw [h9] at hcp ⊢
        obtain ⟨bp, op, rfl, -, -⟩ := hrp.at_ (k := 0) (by rw [h9]; decide)
        have hr1 : BRow Wp (some ⟨bp, op + 1, none⟩) (Wal.hi8 (Key.pbits (Key.real1 v.f))) := by simpa [Addr.add_lit] using hrp.drop 1
        have HR1 := Lib.hid hr1
        have hcp1 : ¬ cp = 1 := by omega
        have hcp8 : 8 ≤ cp - 1 := by omega
        have HLO : Hid (Wal.lo (Wal.hi8 (Key.pbits (Key.real1 v.f))) = Key.pbits (Key.real1 v.f)) := Wal.lo_hi8 _ HPT.out
        clear hrp h9 hr1
        go_wp2_with fail
        refine (klow_any _ _ 8 (cp - 1) _ HR1.out (Wal.hi8_length _) hcp8 hcp8).mono ?_
        rintro e Wl ⟨rfl, rfl⟩
        rw [HLO.out]
        clear hcp hcp1 hcp8
        go_wp2_with fail
        refine (wnum_any _ _ HPT.out).mono ?_
        rintro e W5 ⟨A5, c5, rfl, ho5, hb5⟩
        have H5 := Lib.hid (And.intro (H4.out.1.below hb5) (And.intro (H4.out.2.then hb5) ho5.row))
        clear ho5 hb5 H4
        have HL5 : Hid ((Wire.num (Key.pbits (Key.real1 v.f))).length ≤ 1010) := by show _ ≤ _; have := HPL.out; rw [HRO.out, List.length_cons, HPY.out] at this; first | omega | (simp; done)
        go_wp2_with (at_builtin; refine wpList_append_bytes rfl (.tmp 35) (.tmp 40) rfl _ rfl H5.out.1 (by simp) _ rfl H5.out.2.2 rfl (by have := HKL.out; have := HL5.out; rw [List.length_append]; simp; omega) H5.out.2.1.size ?_; intro A6 c6 W6 ho6 hb6 _ _)
        have HO6 := Lib.hid (And.intro ho6 (H5.out.2.1.trans hb6))
        clear ho6 hb6 H5
        go_roundw
        case rel =>
          refine ⟨k + 1, A6, c6, by omega, ?_, by go_num, ?_⟩
          · rw [HSA.out, HRO.out, HPY.out]; simp <;> omega
          · rw [HSA.out, HRO.out, HPY.out]
            refine ⟨?_, HO6.out.2⟩
            have := HO6.out.1
            rw [List.append_assoc, List.singleton_append] at this
            exact this
        case measure => simp [intOf]; omega
      by_cases k3 : v.k = 3
      · have HC := Lib.hid (Va.clean3 k3)
        have HRO : Hid (Key.rowOf (Key.clean v) = 3 :: Key.pay (Key.clean v)) := by show _ = _; rw [HC.out]; rfl
        have HPY : Hid (Key.pay (Key.clean v) = Wire.text v.s) := by show _ = _; rw [HC.out]; rfl
        have c0 : Wc.cell? ⟨wr.heap.size, 0, none⟩ = some (.int .i64 3) := by have := HBC.out.c4.1; rw [HC.out] at this; exact this
        have hone : BRow (Wc.alloc (.cells #[.int .u8 3] 5)) (some ⟨Wc.heap.size, 0, none⟩) [3] := BRow.one _ _ _ _ rfl
        have hal := H3.out.1.alloc (.cells #[.int .u8 3] 5)
        have HW0 := Lib.hid H3.out.2.size
        go_upto_region 7 with (at_builtin; refine wpList_append_bytes rfl (.tmp 18) (.tmp 22) rfl _ rfl hal rfl _ rfl hone rfl (by have := HKL.out; simp; omega) (by have := HW0.out; simp; omega) ?_; intro A4 c4 W4 ho4 hb4 hg4 _)
        have hb5 : Blk W4 wr.heap.size 27 (Key.clean v).cells := (HBC.out.alloc (.cells #[.int .u8 3] 5)).grown hg4 HNE.out
        have hbx : Below w.heap.size w W4 := (H3.out.2.trans ((Below.alloc1 Wc _).mono H3.out.2.size)).trans hb4
        have H4 := Lib.hid (And.intro ho4 hbx)
        clear c0 hone hal ho4 hb4 hg4 hbx H3
        rw [HC.out] at hb5
        obtain ⟨c0, c1', c2, c3, -⟩ := Blk.c4 hb5
        clear hb5 HBC
        go_wp2_with fail
        clear c0 c1' c2 c3
        refine (wtext_any _ v.s (Nat.le_trans hsh.out (by decide))).mono ?_
        rintro e W5 ⟨A5, c5, rfl, ho5, hb5⟩
        have H5 := Lib.hid (And.intro (H4.out.1.below hb5) (And.intro (H4.out.2.then hb5) ho5.row))
        clear ho5 hb5 H4
        have HL5 : Hid ((Wire.text v.s).length ≤ 1010) := by show _ ≤ _; have := HPL.out; rw [HRO.out, List.length_cons, HPY.out] at this; first | omega | (simp; done)
        go_wp2_with (at_builtin; refine wpList_append_bytes rfl (.tmp 44) (.tmp 47) rfl _ rfl H5.out.1 (by simp) _ rfl H5.out.2.2 rfl (by have := HKL.out; have := HL5.out; rw [List.length_append]; simp; omega) H5.out.2.1.size ?_; intro A6 c6 W6 ho6 hb6 _ _)
        have HO6 := Lib.hid (And.intro ho6 (H5.out.2.1.trans hb6))
        clear ho6 hb6 H5
        go_roundw
        case rel =>
          refine ⟨k + 1, A6, c6, by omega, ?_, by go_num, ?_⟩
          · rw [HSA.out, HRO.out, HPY.out]; simp <;> omega
          · rw [HSA.out, HRO.out, HPY.out]
            refine ⟨?_, HO6.out.2⟩
            have := HO6.out.1
            rw [List.append_assoc, List.singleton_append] at this
            exact this
        case measure => simp [intOf]; omega
      by_cases k4 : v.k = 4
      · by_cases hn0 : v.n = 0
        · have HC : Hid (Key.clean v = ⟨4, 0, 0, []⟩) := by show _ = _; rw [Va.clean4 k4, if_pos hn0]
          have HRO : Hid (Key.rowOf (Key.clean v) = 4 :: Key.pay (Key.clean v)) := by show _ = _; rw [HC.out]; rfl
          have HPY : Hid (Key.pay (Key.clean v) = [if false then 1 else 0]) := by show _ = _; rw [HC.out]; rfl
          clear hn0
          have c0 : Wc.cell? ⟨wr.heap.size, 0, none⟩ = some (.int .i64 4) := by have := HBC.out.c4.1; rw [HC.out] at this; exact this
          have hone : BRow (Wc.alloc (.cells #[.int .u8 4] 5)) (some ⟨Wc.heap.size, 0, none⟩) [4] := BRow.one _ _ _ _ rfl
          have hal := H3.out.1.alloc (.cells #[.int .u8 4] 5)
          have HW0 := Lib.hid H3.out.2.size
          go_upto_region 7 with (at_builtin; refine wpList_append_bytes rfl (.tmp 18) (.tmp 22) rfl _ rfl hal rfl _ rfl hone rfl (by have := HKL.out; simp; omega) (by have := HW0.out; simp; omega) ?_; intro A4 c4 W4 ho4 hb4 hg4 _)
          have hb5 : Blk W4 wr.heap.size 27 (Key.clean v).cells := (HBC.out.alloc (.cells #[.int .u8 4] 5)).grown hg4 HNE.out
          have hbx : Below w.heap.size w W4 := (H3.out.2.trans ((Below.alloc1 Wc _).mono H3.out.2.size)).trans hb4
          have H4 := Lib.hid (And.intro ho4 hbx)
          clear c0 hone hal ho4 hb4 hg4 hbx H3
          rw [HC.out] at hb5
          obtain ⟨c0, c1', c2, c3, -⟩ := Blk.c4 hb5
          clear hb5 HBC
          go_wp2_with fail
          clear c0 c1' c2 c3
          refine (wbool_any _ false).mono ?_
          rintro e W5 ⟨A5, c5, rfl, ho5, hb5⟩
          have H5 := Lib.hid (And.intro (H4.out.1.below hb5) (And.intro (H4.out.2.then hb5) ho5.row))
          clear ho5 hb5 H4
          have HL5 : Hid (([if false then 1 else 0] : List UInt8).length ≤ 1010) := by show _ ≤ _; have := HPL.out; rw [HRO.out, List.length_cons, HPY.out] at this; first | omega | (simp; done)
          go_wp2_with (at_builtin; refine wpList_append_bytes rfl (.tmp 51) (.tmp 55) rfl _ rfl H5.out.1 (by simp) _ rfl H5.out.2.2 rfl (by have := HKL.out; have := HL5.out; rw [List.length_append]; simp; omega) H5.out.2.1.size ?_; intro A6 c6 W6 ho6 hb6 _ _)
          have HO6 := Lib.hid (And.intro ho6 (H5.out.2.1.trans hb6))
          clear ho6 hb6 H5
          go_roundw
          case rel =>
            refine ⟨k + 1, A6, c6, by omega, ?_, by go_num, ?_⟩
            · rw [HSA.out, HRO.out, HPY.out]; simp <;> omega
            · rw [HSA.out, HRO.out, HPY.out]
              refine ⟨?_, HO6.out.2⟩
              have := HO6.out.1
              rw [List.append_assoc, List.singleton_append] at this
              exact this
          case measure => simp [intOf]; omega
        · have HC : Hid (Key.clean v = ⟨4, 1, 0, []⟩) := by show _ = _; rw [Va.clean4 k4, if_neg hn0]
          have HRO : Hid (Key.rowOf (Key.clean v) = 4 :: Key.pay (Key.clean v)) := by show _ = _; rw [HC.out]; rfl
          have HPY : Hid (Key.pay (Key.clean v) = [if true then 1 else 0]) := by show _ = _; rw [HC.out]; rfl
          clear hn0
          have c0 : Wc.cell? ⟨wr.heap.size, 0, none⟩ = some (.int .i64 4) := by have := HBC.out.c4.1; rw [HC.out] at this; exact this
          have hone : BRow (Wc.alloc (.cells #[.int .u8 4] 5)) (some ⟨Wc.heap.size, 0, none⟩) [4] := BRow.one _ _ _ _ rfl
          have hal := H3.out.1.alloc (.cells #[.int .u8 4] 5)
          have HW0 := Lib.hid H3.out.2.size
          go_upto_region 7 with (at_builtin; refine wpList_append_bytes rfl (.tmp 18) (.tmp 22) rfl _ rfl hal rfl _ rfl hone rfl (by have := HKL.out; simp; omega) (by have := HW0.out; simp; omega) ?_; intro A4 c4 W4 ho4 hb4 hg4 _)
          have hb5 : Blk W4 wr.heap.size 27 (Key.clean v).cells := (HBC.out.alloc (.cells #[.int .u8 4] 5)).grown hg4 HNE.out
          have hbx : Below w.heap.size w W4 := (H3.out.2.trans ((Below.alloc1 Wc _).mono H3.out.2.size)).trans hb4
          have H4 := Lib.hid (And.intro ho4 hbx)
          clear c0 hone hal ho4 hb4 hg4 hbx H3
          rw [HC.out] at hb5
          obtain ⟨c0, c1', c2, c3, -⟩ := Blk.c4 hb5
          clear hb5 HBC
          go_wp2_with fail
          clear c0 c1' c2 c3
          refine (wbool_any _ true).mono ?_
          rintro e W5 ⟨A5, c5, rfl, ho5, hb5⟩
          have H5 := Lib.hid (And.intro (H4.out.1.below hb5) (And.intro (H4.out.2.then hb5) ho5.row))
          clear ho5 hb5 H4
          have HL5 : Hid (([if true then 1 else 0] : List UInt8).length ≤ 1010) := by show _ ≤ _; have := HPL.out; rw [HRO.out, List.length_cons, HPY.out] at this; first | omega | (simp; done)
          go_wp2_with (at_builtin; refine wpList_append_bytes rfl (.tmp 51) (.tmp 55) rfl _ rfl H5.out.1 (by simp) _ rfl H5.out.2.2 rfl (by have := HKL.out; have := HL5.out; rw [List.length_append]; simp; omega) H5.out.2.1.size ?_; intro A6 c6 W6 ho6 hb6 _ _)
          have HO6 := Lib.hid (And.intro ho6 (H5.out.2.1.trans hb6))
          clear ho6 hb6 H5
          go_roundw
          case rel =>
            refine ⟨k + 1, A6, c6, by omega, ?_, by go_num, ?_⟩
            · rw [HSA.out, HRO.out, HPY.out]; simp <;> omega
            · rw [HSA.out, HRO.out, HPY.out]
              refine ⟨?_, HO6.out.2⟩
              have := HO6.out.1
              rw [List.append_assoc, List.singleton_append] at this
              exact this
          case measure => simp [intOf]; omega
      · have HC := Lib.hid (Va.clean0 k1 k2 k3 k4)
        have HRO : Hid (Key.rowOf (Key.clean v) = [0]) := by show _ = _; rw [HC.out]; rfl
        have c0 : Wc.cell? ⟨wr.heap.size, 0, none⟩ = some (.int .i64 0) := by have := HBC.out.c4.1; rw [HC.out] at this; exact this
        have hone : BRow (Wc.alloc (.cells #[.int .u8 0] 5)) (some ⟨Wc.heap.size, 0, none⟩) [0] := BRow.one _ _ _ _ rfl
        have hal := H3.out.1.alloc (.cells #[.int .u8 0] 5)
        have HW0 := Lib.hid H3.out.2.size
        go_upto_region 7 with (at_builtin; refine wpList_append_bytes rfl (.tmp 18) (.tmp 22) rfl _ rfl hal rfl _ rfl hone rfl (by have := HKL.out; simp; omega) (by have := HW0.out; simp; omega) ?_; intro A4 c4 W4 ho4 hb4 hg4 _)
        have hb5 : Blk W4 wr.heap.size 27 (Key.clean v).cells := (HBC.out.alloc (.cells #[.int .u8 0] 5)).grown hg4 HNE.out
        have hbx : Below w.heap.size w W4 := (H3.out.2.trans ((Below.alloc1 Wc _).mono H3.out.2.size)).trans hb4
        have H4 := Lib.hid (And.intro ho4 hbx)
        clear c0 hone hal ho4 hb4 hg4 hbx H3
        rw [HC.out] at hb5
        obtain ⟨c0, c1', c2, c3, -⟩ := Blk.c4 hb5
        clear hb5 HBC
        go_wp2_with fail
        clear c0 c1' c2 c3
        go_roundw
        case rel => exact ⟨k + 1, A4, c4, by omega, by rw [HSA.out, HRO.out]; simp, by go_num, by show _ ∧ _; rw [HSA.out, HRO.out]; exact H4.out⟩
        case measure => simp [intOf]; omega
    · obtain rfl : k = L.length := by omega
      have hlt2 : L.take L.length = L := List.take_length
      rw [hlt2] at HJ ⊢
      clear hlt2
      go_wp2_with fail
      go_ret
      exact ⟨A1, c1, rfl, HJ.out.1, HJ.out.2⟩
end Go.Proofs.YtknfnhmkiooifaaDoor
end

section
/-
  The contracts of dowserlaw08.clean and exact, of dowserref07.Exact and math.Signbit.
-/
namespace Go.Proofs.YtknfnhmkiooifaaDoor
set_option linter.unusedSimpArgs false
set_option linter.unusedVariables false
open Go.RowKit

set_option maxRecDepth 20000 in
set_option maxHeartbeats 4000000 in
theorem lclean_any (w : World) (A : Option Addr) (c : Nat) (L : List Va) (hr : ERow eVa w A L) (hL : Few L) : Calls Tryd.prog 19 #[.slice A L.length c] w (RetRow eVa w (L.map Key.dclean)) := by
  have HR := Lib.hid hr
  have HL := Lib.hid hL
  have hn := hL.len
  clear hr hL
  go_enter Tryd.func19, Tryd.ntmps19
  go_wp2_with fail
  go_loopw [3, 8] (fun bv_ iv wr => ∃ (k : Nat) (A1 : Option Addr) (c1 : Nat), k ≤ L.length ∧ bv_ = .slice A1 ((L.take k).map Key.dclean).length c1 ∧ iv = .int .i64 (k : Int) ∧ Hid (EOwn eVa wr w.heap.size A1 c1 ((L.take k).map Key.dclean) ∧ Below w.heap.size w wr)) (fun _ iv _ => L.length - (intOf iv).toNat)
  case atStart => exact ⟨0, none, 0, Nat.zero_le _, rfl, rfl, EOwn.nil _ _, Below.refl _ _⟩
  case round =>
    obtain ⟨k, A1, c1, hk, rfl, rfl, HJ⟩ := hrel
    by_cases hlt : k < L.length
    · have hii : (k : Int) < (L.length : Int) := by omega
      obtain ⟨b, o, rfl, hb, -⟩ := HR.out.at_ hlt
      have hok := Lib.hid (HL.out.ok _ (List.getElem_mem hlt))
      have HRW := Lib.hid (HR.out.below HJ.out.2)
      have HS : Hid ((L.take (k + 1)).map Key.dclean = (L.take k).map Key.dclean ++ [Key.dclean L[k]]) := by show _ = _; rw [List.take_succ_eq_append_getElem hlt, List.map_append]; rfl
      have HLN : Hid (((L.take k).map Key.dclean).length = k) := by show _ = _; rw [List.length_map, List.length_take]; omega
      go_upto_region 5 with (first | (refine wpList_load_va_at rfl (.tmp 10) rfl HRW.out hlt rfl ?_) | (refine wpList_alloc_va rfl rfl ?_; intro W2 hb2 hz2 hB2) | (refine wpList_store_va rfl rfl (.tmp 5) (.tmp 11) rfl wr.heap.size rfl L[k] rfl hb2 ?_; intro W3 hb3 hg3))
      have hB3 : Below wr.heap.size wr W3 := below_of_grown hB2 hg3 (Nat.le_refl _) (by omega)
      have hz3 := hg3.size
      clear hb2 hz2 hB2 hg3
      go_wp2_with (refine wpList_load_va rfl (.tmp 5) rfl wr.heap.size rfl hb3 ?_)
      refine (dclean_any _ _ hok.out).mono ?_
      rintro e W4 ⟨rfl, hB4⟩
      have hBw := hB3.trans (hB4.mono hB3.size)
      have H4 := Lib.hid (And.intro (HJ.out.1.below hBw) (HJ.out.2.then hBw))
      clear hB4 hB3 hb3 hBw
      generalize hv : Key.dclean L[k] = v at HS ⊢
      clear hv
      unfold Va.v
      have H5 := Lib.hid (And.intro (H4.out.1.alloc (.cells #[.int .i64 v.k, .int .i64 v.n, .float .f64 v.f, txt v.s] 27)) (And.intro (ERow.lit eVa W4 v #[.int .i64 v.k, .int .i64 v.n, .float .f64 v.f, txt v.s] rfl W4.heap.size rfl) (H4.out.2.trans ((Below.alloc1 W4 (.cells #[.int .i64 v.k, .int .i64 v.n, .float .f64 v.f, txt v.s] 27)).mono H4.out.2.size))))
      go_wp2_with (at_builtin; refine wpList_append_elems eVa rfl (.tmp 12) (.tmp 15) rfl _ rfl H5.out.1 HLN.out.symm _ rfl H5.out.2.1 rfl (by rw [HLN.out]; simp; omega) H5.out.2.2.size ?_; intro A6 c6 W6 ho6 hb6 _ _)
      have H6 := Lib.hid (And.intro ho6 (H5.out.2.2.trans hb6))
      clear ho6 hb6 H5 H4
      go_roundw
      case rel =>
        refine ⟨k + 1, A6, c6, by omega, ?_, by go_num, ?_⟩
        · rw [HS.out, List.length_append, HLN.out]; rfl
        · rw [HS.out]; exact H6.out
      case measure => simp [intOf]; omega
    · obtain rfl : k = L.length := by omega
      have hlt2 : L.take L.length = L := List.take_length
      rw [hlt2] at HJ ⊢
      clear hlt2
      go_wp2_with fail
      go_ret
      exact ⟨A1, c1, rfl, HJ.out.1, HJ.out.2⟩
set_option maxRecDepth 20000 in
set_option maxHeartbeats 1000000 in
theorem signbit_any (w : World) (f : Nat) (hf : f < two64) : Calls Tryd.prog 71 #[.float .f64 f] w fun e w' => e = .returned (.bool (decide (9223372036854775808 ≤ f))) ∧ w' = w := by
  have h1 : (f : Int) < 18446744073709551616 := by have := two64_eq; omega
  go_enter Tryd.func71, Tryd.ntmps71
  have hx : (Extern.MathFloatBits.float64bits #[.float .f64 f]).run Tryd.prog w = .ok (.int .u64 (f : Int)) w := rfl
  go_wp2_with fail
  rw [run_callFunc_extern Tryd.func84 (by kernel_rfl) (by kernel_rfl) (by kernel_rfl) (e := Extern.MathFloatBits.float64bits) (by kernel_rfl), hx]
  simp only [Result.andThen]
  rw [Oper.upon_value]
  by_cases ht : 9223372036854775808 ≤ f
  · have HD : Hid (decide (9223372036854775808 ≤ f) = true) := decide_eq_true ht
    have hi : wrap64 (f : Int) < 0 := by unfold wrap64; omega
    clear ht hf
    go_wp2_with fail
    go_ret
    exact ⟨by rw [HD.out]; rfl, rfl⟩
  · have HD : Hid (decide (9223372036854775808 ≤ f) = false) := decide_eq_false ht
    have hi : ¬ wrap64 (f : Int) < 0 := by unfold wrap64; omega
    clear ht hf
    go_wp2_with fail
    go_ret
    exact ⟨by rw [HD.out]; rfl, rfl⟩
/-- Two clean values are one, field by field. -/
def eqV (x y : Va) : Prop := x.k = y.k ∧ x.n = y.n ∧ x.s = y.s ∧ (fnan x.f ↔ fnan y.f) ∧ (fnan x.f ∨ x.f = y.f)
instance (x y : Va) : Decidable (eqV x y) := by unfold eqV; infer_instance
theorem xstr_eq (l m : List UInt8) (w : World) : (binOp .eql 9 (txt l) (txt m)).run Tryd.prog w = .ok (.bool (l == m)) w := by
  unfold txt
  rw [binOp_string_eql, txt_bytes, txt_bytes]
  rfl
theorem xeqg (t : TypeId) (x y : Operand) (l m : List UInt8) : eqGuard .eql t x y (txt l) (txt m) = pure () := rfl
set_option maxRecDepth 20000 in
set_option maxHeartbeats 8000000 in
theorem vexact_any (w : World) (x y : Va) (hx : x.ok) (hy : y.ok) (cx : Key.Clean x) (cy : Key.Clean y) : Calls Tryd.prog 41 #[x.v, y.v] w fun e w' => e = .returned (.bool (decide (eqV x y))) ∧ Below w.heap.size w w' := by
  have HX := Lib.hid hx
  have HY := Lib.hid hy
  have HCX := Lib.hid cx.zz
  have HCY := Lib.hid cy.zz
  clear hx hy cx cy
  go_enter Tryd.func41, Tryd.ntmps41
  go_upto_region 1 with (first | (refine wpList_box_va rfl (.tmp 0) rfl x rfl ?_; intro W1 hb1 hz1 hB1) | (refine wpList_box_va rfl (.tmp 1) rfl y rfl ?_; intro W2 hb2 hz2 hB2))
  have h12 := hb1.below hB2
  have HB := Lib.hid (hB1.trans (hB2.mono hB1.size))
  clear hb1 hB1 hB2
  obtain ⟨c0, c1, c2, c3, -⟩ := Blk.c4 h12
  obtain ⟨d0, d1, d2, d3, -⟩ := Blk.c4 hb2
  have keq := xstr_eq
  have geq := xeqg
  clear h12 hb2 hz1 hz2
  by_cases e1 : x.k = y.k
  · rw [e1] at c0
    by_cases e2 : x.n = y.n
    · rw [e2] at c1
      by_cases e3 : x.s = y.s
      · rw [e3] at c3
        have hss : (y.s == y.s) = true := by simp
        by_cases nx : fnan x.f <;> by_cases ny : fnan y.f
        · have HV : Hid (decide (eqV x y) = true) := decide_eq_true ⟨e1, e2, e3, ⟨fun _ => ny, fun _ => nx⟩, .inl nx⟩
          have hdx : (!decide (fnan x.f)) = false := by simp [nx]
          have hdy : (!decide (fnan y.f)) = false := by simp [ny]
          clear e1 e2 e3 nx ny
          refine wp_region_plan (.take 0 (.take 1 (.take 2 (.take 3 (.take 4 (.take 5 (.take 6 (.take 7 (.take 8 (.take 9 (.take 10 (.take 11 (.take 12 (.take 13 (.take 14 (.take 15 (.take 16 (.take 17 (.take 18 (.take 19 (.take 20 (.take 21 (.take 23 (.take 24 (.run 22 [23, 24] (.run 25 [] (.take 26 (.take 27 (.take 28 (.take 29 (.run 30 [] (.take 31 (.take 32 (.take 33 (.take 34 (.take 35 (.take 36 (.take 37 (.take 38 (.take 39 (.take 40 (.take 42 (.take 43 (.run 41 [42, 43] (.run 44 [] (.take 45 (.take 46 (.take 47 (.take 48 (.take 49 (.take 50 .fin))))))))))))))))))))))))))))))))))))))))))))))))))) (by kernel_rfl) (by kernel_rfl) (by kernel_rfl) (by kernel_rfl) ?_
          repeat' (first | (refine hZ _ _ ?_; clear hZ) | (refine hZ _ ?_; clear hZ) | (refine hZ ?_; clear hZ) | rw [again_nil] | rw [walk_fin] | ((first | rw [walk_take] | rw [walk_run] | rw [again_cons]); intro Z hZ; simp only [sel, List.getElem?_toArray, List.getElem?_cons_zero, List.getElem?_cons_succ]; go_wp2_with (fail)))
          refine (number_any _ x.f HX.out.f1).mono ?_
          rintro e wq ⟨rfl, hwq⟩
          rw [hwq, hdx]
          clear hwq wq
          go_wp2_with fail
          repeat' (first | (refine hZ _ _ ?_; clear hZ) | (refine hZ _ ?_; clear hZ) | (refine hZ ?_; clear hZ) | rw [again_nil] | rw [walk_fin] | ((first | rw [walk_take] | rw [walk_run] | rw [again_cons]); intro Z hZ; simp only [sel, List.getElem?_toArray, List.getElem?_cons_zero, List.getElem?_cons_succ]; go_wp2_with (fail)))
          refine (number_any _ y.f HY.out.f1).mono ?_
          rintro e wq ⟨rfl, hwq⟩
          rw [hwq, hdy]
          clear hwq wq
          go_wp2_with fail
          repeat' (first | (refine hZ _ _ ?_; clear hZ) | (refine hZ _ ?_; clear hZ) | (refine hZ ?_; clear hZ) | rw [again_nil] | rw [walk_fin] | ((first | rw [walk_take] | rw [walk_run] | rw [again_cons]); intro Z hZ; simp only [sel, List.getElem?_toArray, List.getElem?_cons_zero, List.getElem?_cons_succ]; go_wp2_with (fail)))
          refine (number_any _ x.f HX.out.f1).mono ?_
          rintro e wq ⟨rfl, hwq⟩
          rw [hwq, hdx]
          clear hwq wq
          go_wp2_with fail
          repeat' (first | (refine hZ _ _ ?_; clear hZ) | (refine hZ _ ?_; clear hZ) | (refine hZ ?_; clear hZ) | rw [again_nil] | rw [walk_fin] | ((first | rw [walk_take] | rw [walk_run] | rw [again_cons]); intro Z hZ; simp only [sel, List.getElem?_toArray, List.getElem?_cons_zero, List.getElem?_cons_succ]; go_wp2_with (fail)))
          go_wp2_with fail
          go_ret
          exact ⟨by rw [HV.out]; rfl, HB.out.drewR⟩
        · have HV : Hid (decide (eqV x y) = false) := decide_eq_false fun h => ny (h.2.2.2.1.1 nx)
          have hdx : (!decide (fnan x.f)) = false := by simp [nx]
          have hdy : (!decide (fnan y.f)) = true := by simp [ny]
          clear e1 e2 e3 nx ny
          refine wp_region_plan (.take 0 (.take 1 (.take 2 (.take 3 (.take 4 (.take 5 (.take 6 (.take 7 (.take 8 (.take 9 (.take 10 (.take 11 (.take 12 (.take 13 (.take 14 (.take 15 (.take 16 (.take 17 (.take 18 (.take 19 (.take 20 (.take 21 (.take 23 (.take 24 (.run 22 [23, 24] (.run 25 [] (.take 26 (.take 27 (.take 28 (.take 29 (.run 30 [] (.take 31 (.take 32 (.take 33 (.take 34 (.take 35 (.take 36 (.take 37 (.take 38 (.take 39 (.take 40 (.take 42 (.take 43 (.run 41 [42, 43] (.run 44 [] (.take 45 (.take 46 (.take 47 (.take 48 (.take 49 (.take 50 .fin))))))))))))))))))))))))))))))))))))))))))))))))))) (by kernel_rfl) (by kernel_rfl) (by kernel_rfl) (by kernel_rfl) ?_
          repeat' (first | (refine hZ _ _ ?_; clear hZ) | (refine hZ _ ?_; clear hZ) | (refine hZ ?_; clear hZ) | rw [again_nil] | rw [walk_fin] | ((first | rw [walk_take] | rw [walk_run] | rw [again_cons]); intro Z hZ; simp only [sel, List.getElem?_toArray, List.getElem?_cons_zero, List.getElem?_cons_succ]; go_wp2_with (fail)))
          refine (number_any _ x.f HX.out.f1).mono ?_
          rintro e wq ⟨rfl, hwq⟩
          rw [hwq, hdx]
          clear hwq wq
          go_wp2_with fail
          repeat' (first | (refine hZ _ _ ?_; clear hZ) | (refine hZ _ ?_; clear hZ) | (refine hZ ?_; clear hZ) | rw [again_nil] | rw [walk_fin] | ((first | rw [walk_take] | rw [walk_run] | rw [again_cons]); intro Z hZ; simp only [sel, List.getElem?_toArray, List.getElem?_cons_zero, List.getElem?_cons_succ]; go_wp2_with (fail)))
          refine (number_any _ y.f HY.out.f1).mono ?_
          rintro e wq ⟨rfl, hwq⟩
          rw [hwq, hdy]
          clear hwq wq
          go_wp2_with fail
          repeat' (first | (refine hZ _ _ ?_; clear hZ) | (refine hZ _ ?_; clear hZ) | (refine hZ ?_; clear hZ) | rw [again_nil] | rw [walk_fin] | ((first | rw [walk_take] | rw [walk_run] | rw [again_cons]); intro Z hZ; simp only [sel, List.getElem?_toArray, List.getElem?_cons_zero, List.getElem?_cons_succ]; go_wp2_with (fail)))
          go_wp2_with fail
          go_ret
          exact ⟨by rw [HV.out]; rfl, HB.out.drewR⟩
        · have HV : Hid (decide (eqV x y) = false) := decide_eq_false fun h => nx (h.2.2.2.1.2 ny)
          have hdx : (!decide (fnan x.f)) = true := by simp [nx]
          have hdy : (!decide (fnan y.f)) = false := by simp [ny]
          clear e1 e2 e3 nx ny
          refine wp_region_plan (.take 0 (.take 1 (.take 2 (.take 3 (.take 4 (.take 5 (.take 6 (.take 7 (.take 8 (.take 9 (.take 10 (.take 11 (.take 12 (.take 13 (.take 14 (.take 15 (.take 16 (.take 17 (.take 18 (.take 19 (.take 20 (.take 21 (.take 23 (.take 24 (.run 22 [23, 24] (.run 25 [] (.take 26 (.take 27 (.take 28 (.take 29 (.run 30 [] (.take 31 (.take 32 (.take 33 (.take 34 (.take 35 (.take 36 (.take 37 (.take 38 (.take 39 (.take 40 (.take 42 (.take 43 (.run 41 [42, 43] (.run 44 [] (.take 45 (.take 46 (.take 47 (.take 48 (.take 49 (.take 50 .fin))))))))))))))))))))))))))))))))))))))))))))))))))) (by kernel_rfl) (by kernel_rfl) (by kernel_rfl) (by kernel_rfl) ?_
          repeat' (first | (refine hZ _ _ ?_; clear hZ) | (refine hZ _ ?_; clear hZ) | (refine hZ ?_; clear hZ) | rw [again_nil] | rw [walk_fin] | ((first | rw [walk_take] | rw [walk_run] | rw [again_cons]); intro Z hZ; simp only [sel, List.getElem?_toArray, List.getElem?_cons_zero, List.getElem?_cons_succ]; go_wp2_with (fail)))
          refine (number_any _ x.f HX.out.f1).mono ?_
          rintro e wq ⟨rfl, hwq⟩
          rw [hwq, hdx]
          clear hwq wq
          go_wp2_with fail
          repeat' (first | (refine hZ _ _ ?_; clear hZ) | (refine hZ _ ?_; clear hZ) | (refine hZ ?_; clear hZ) | rw [again_nil] | rw [walk_fin] | ((first | rw [walk_take] | rw [walk_run] | rw [again_cons]); intro Z hZ; simp only [sel, List.getElem?_toArray, List.getElem?_cons_zero, List.getElem?_cons_succ]; go_wp2_with (fail)))
          refine (number_any _ y.f HY.out.f1).mono ?_
          rintro e wq ⟨rfl, hwq⟩
          rw [hwq, hdy]
          clear hwq wq
          go_wp2_with fail
          repeat' (first | (refine hZ _ _ ?_; clear hZ) | (refine hZ _ ?_; clear hZ) | (refine hZ ?_; clear hZ) | rw [again_nil] | rw [walk_fin] | ((first | rw [walk_take] | rw [walk_run] | rw [again_cons]); intro Z hZ; simp only [sel, List.getElem?_toArray, List.getElem?_cons_zero, List.getElem?_cons_succ]; go_wp2_with (fail)))
          go_wp2_with fail
          go_ret
          exact ⟨by rw [HV.out]; rfl, HB.out.drewR⟩
        · have hdx : (!decide (fnan x.f)) = true := by simp [nx]
          have hdy : (!decide (fnan y.f)) = true := by simp [ny]
          have ho : FloatKind.f64.format.order x.f y.f = some (compare (fsg x.f) (fsg y.f)) := ford_some HX.out.f1 HY.out.f1 nx ny
          by_cases hf : x.f = y.f
          · have HV : Hid (decide (eqV x y) = true) := decide_eq_true ⟨e1, e2, e3, ⟨fun h => absurd h nx, fun h => absurd h ny⟩, .inr hf⟩
            have hord : FloatKind.f64.format.order y.f y.f = some .eq := by rw [hf, Std.compare_self] at ho; exact ho
            rw [hf] at c2 hdx
            have hsb : (decide (9223372036854775808 ≤ y.f) == decide (9223372036854775808 ≤ y.f)) = true := by simp
            clear e1 e2 e3 nx ny ho hf
            refine wp_region_plan (.take 0 (.take 1 (.take 2 (.take 3 (.take 4 (.take 5 (.take 6 (.take 7 (.take 8 (.take 9 (.take 10 (.take 11 (.take 12 (.take 13 (.take 14 (.take 15 (.take 16 (.take 17 (.take 18 (.take 19 (.take 20 (.take 21 (.take 23 (.take 24 (.run 22 [23, 24] (.run 25 [] (.take 26 (.take 27 (.take 28 (.take 29 (.run 30 [] (.take 31 (.take 32 (.take 33 (.take 34 (.take 35 (.take 36 (.take 37 (.take 38 (.take 39 (.take 40 (.take 42 (.take 43 (.run 41 [42, 43] (.run 44 [] (.take 45 (.take 46 (.take 47 (.take 48 (.take 49 (.take 50 .fin))))))))))))))))))))))))))))))))))))))))))))))))))) (by kernel_rfl) (by kernel_rfl) (by kernel_rfl) (by kernel_rfl) ?_
            repeat' (first | (refine hZ _ _ ?_; clear hZ) | (refine hZ _ ?_; clear hZ) | (refine hZ ?_; clear hZ) | rw [again_nil] | rw [walk_fin] | ((first | rw [walk_take] | rw [walk_run] | rw [again_cons]); intro Z hZ; simp only [sel, List.getElem?_toArray, List.getElem?_cons_zero, List.getElem?_cons_succ]; go_wp2_with (fail)))
            refine (number_any _ y.f HY.out.f1).mono ?_
            rintro e wq ⟨rfl, hwq⟩
            rw [hwq, hdy]
            clear hwq wq
            go_wp2_with fail
            repeat' (first | (refine hZ _ _ ?_; clear hZ) | (refine hZ _ ?_; clear hZ) | (refine hZ ?_; clear hZ) | rw [again_nil] | rw [walk_fin] | ((first | rw [walk_take] | rw [walk_run] | rw [again_cons]); intro Z hZ; simp only [sel, List.getElem?_toArray, List.getElem?_cons_zero, List.getElem?_cons_succ]; go_wp2_with (fail)))
            refine (number_any _ y.f HY.out.f1).mono ?_
            rintro e wq ⟨rfl, hwq⟩
            rw [hwq, hdy]
            clear hwq wq
            go_wp2_with fail
            repeat' (first | (refine hZ _ _ ?_; clear hZ) | (refine hZ _ ?_; clear hZ) | (refine hZ ?_; clear hZ) | rw [again_nil] | rw [walk_fin] | ((first | rw [walk_take] | rw [walk_run] | rw [again_cons]); intro Z hZ; simp only [sel, List.getElem?_toArray, List.getElem?_cons_zero, List.getElem?_cons_succ]; go_wp2_with (fail)))
            refine (number_any _ y.f HY.out.f1).mono ?_
            rintro e wq ⟨rfl, hwq⟩
            rw [hwq, hdy]
            clear hwq wq
            go_wp2_with fail
            repeat' (first | (refine hZ _ _ ?_; clear hZ) | (refine hZ _ ?_; clear hZ) | (refine hZ ?_; clear hZ) | rw [again_nil] | rw [walk_fin] | ((first | rw [walk_take] | rw [walk_run] | rw [again_cons]); intro Z hZ; simp only [sel, List.getElem?_toArray, List.getElem?_cons_zero, List.getElem?_cons_succ]; go_wp2_with (fail)))
            refine (signbit_any _ y.f HY.out.f1).mono ?_
            rintro e wq ⟨rfl, hwq⟩
            rw [hwq]
            clear hwq wq
            go_wp2_with fail
            repeat' (first | (refine hZ _ _ ?_; clear hZ) | (refine hZ _ ?_; clear hZ) | (refine hZ ?_; clear hZ) | rw [again_nil] | rw [walk_fin] | ((first | rw [walk_take] | rw [walk_run] | rw [again_cons]); intro Z hZ; simp only [sel, List.getElem?_toArray, List.getElem?_cons_zero, List.getElem?_cons_succ]; go_wp2_with (fail)))
            refine (signbit_any _ y.f HY.out.f1).mono ?_
            rintro e wq ⟨rfl, hwq⟩
            rw [hwq]
            clear hwq wq
            go_wp2_with fail
            repeat' (first | (refine hZ _ _ ?_; clear hZ) | (refine hZ _ ?_; clear hZ) | (refine hZ ?_; clear hZ) | rw [again_nil] | rw [walk_fin] | ((first | rw [walk_take] | rw [walk_run] | rw [again_cons]); intro Z hZ; simp only [sel, List.getElem?_toArray, List.getElem?_cons_zero, List.getElem?_cons_succ]; go_wp2_with (fail)))
            go_wp2_with fail
            go_ret
            exact ⟨by rw [HV.out]; rfl, HB.out.drewR⟩
          · have HV : Hid (decide (eqV x y) = false) := decide_eq_false fun h => by rcases h.2.2.2.2 with h' | h'; exact nx h'; exact hf h'
            have hne : fsg x.f ≠ fsg y.f := fun h => hf (Key.fsg_inj HX.out.f1 HY.out.f1 HCX.out HCY.out h)
            have hc : compare (fsg x.f) (fsg y.f) ≠ .eq := fun h => hne (Std.compare_eq_iff_eq.1 h)
            cases hcc : compare (fsg x.f) (fsg y.f) with
            | eq => exact absurd hcc hc
            | lt =>
              rw [hcc] at ho
              clear e1 e2 e3 nx ny hf hne hc hcc
              refine wp_region_plan (.take 0 (.take 1 (.take 2 (.take 3 (.take 4 (.take 5 (.take 6 (.take 7 (.take 8 (.take 9 (.take 10 (.take 11 (.take 12 (.take 13 (.take 14 (.take 15 (.take 16 (.take 17 (.take 18 (.take 19 (.take 20 (.take 21 (.take 23 (.take 24 (.run 22 [23, 24] (.run 25 [] (.take 26 (.take 27 (.take 28 (.take 29 (.run 30 [] (.take 31 (.take 32 (.take 33 (.take 34 (.take 35 (.take 36 (.take 37 (.take 38 (.take 39 (.take 40 (.take 42 (.take 43 (.run 41 [42, 43] (.run 44 [] (.take 45 (.take 46 (.take 47 (.take 48 (.take 49 (.take 50 .fin))))))))))))))))))))))))))))))))))))))))))))))))))) (by kernel_rfl) (by kernel_rfl) (by kernel_rfl) (by kernel_rfl) ?_
              repeat' (first | (refine hZ _ _ ?_; clear hZ) | (refine hZ _ ?_; clear hZ) | (refine hZ ?_; clear hZ) | rw [again_nil] | rw [walk_fin] | ((first | rw [walk_take] | rw [walk_run] | rw [again_cons]); intro Z hZ; simp only [sel, List.getElem?_toArray, List.getElem?_cons_zero, List.getElem?_cons_succ]; go_wp2_with (fail)))
              refine (number_any _ x.f HX.out.f1).mono ?_
              rintro e wq ⟨rfl, hwq⟩
              rw [hwq, hdx]
              clear hwq wq
              go_wp2_with fail
              repeat' (first | (refine hZ _ _ ?_; clear hZ) | (refine hZ _ ?_; clear hZ) | (refine hZ ?_; clear hZ) | rw [again_nil] | rw [walk_fin] | ((first | rw [walk_take] | rw [walk_run] | rw [again_cons]); intro Z hZ; simp only [sel, List.getElem?_toArray, List.getElem?_cons_zero, List.getElem?_cons_succ]; go_wp2_with (fail)))
              refine (number_any _ y.f HY.out.f1).mono ?_
              rintro e wq ⟨rfl, hwq⟩
              rw [hwq, hdy]
              clear hwq wq
              go_wp2_with fail
              repeat' (first | (refine hZ _ _ ?_; clear hZ) | (refine hZ _ ?_; clear hZ) | (refine hZ ?_; clear hZ) | rw [again_nil] | rw [walk_fin] | ((first | rw [walk_take] | rw [walk_run] | rw [again_cons]); intro Z hZ; simp only [sel, List.getElem?_toArray, List.getElem?_cons_zero, List.getElem?_cons_succ]; go_wp2_with (fail)))
              refine (number_any _ x.f HX.out.f1).mono ?_
              rintro e wq ⟨rfl, hwq⟩
              rw [hwq, hdx]
              clear hwq wq
              go_wp2_with fail
              repeat' (first | (refine hZ _ _ ?_; clear hZ) | (refine hZ _ ?_; clear hZ) | (refine hZ ?_; clear hZ) | rw [again_nil] | rw [walk_fin] | ((first | rw [walk_take] | rw [walk_run] | rw [again_cons]); intro Z hZ; simp only [sel, List.getElem?_toArray, List.getElem?_cons_zero, List.getElem?_cons_succ]; go_wp2_with (fail)))
              go_wp2_with fail
              go_ret
              exact ⟨by rw [HV.out]; rfl, HB.out.drewR⟩
            | gt =>
              rw [hcc] at ho
              clear e1 e2 e3 nx ny hf hne hc hcc
              refine wp_region_plan (.take 0 (.take 1 (.take 2 (.take 3 (.take 4 (.take 5 (.take 6 (.take 7 (.take 8 (.take 9 (.take 10 (.take 11 (.take 12 (.take 13 (.take 14 (.take 15 (.take 16 (.take 17 (.take 18 (.take 19 (.take 20 (.take 21 (.take 23 (.take 24 (.run 22 [23, 24] (.run 25 [] (.take 26 (.take 27 (.take 28 (.take 29 (.run 30 [] (.take 31 (.take 32 (.take 33 (.take 34 (.take 35 (.take 36 (.take 37 (.take 38 (.take 39 (.take 40 (.take 42 (.take 43 (.run 41 [42, 43] (.run 44 [] (.take 45 (.take 46 (.take 47 (.take 48 (.take 49 (.take 50 .fin))))))))))))))))))))))))))))))))))))))))))))))))))) (by kernel_rfl) (by kernel_rfl) (by kernel_rfl) (by kernel_rfl) ?_
              repeat' (first | (refine hZ _ _ ?_; clear hZ) | (refine hZ _ ?_; clear hZ) | (refine hZ ?_; clear hZ) | rw [again_nil] | rw [walk_fin] | ((first | rw [walk_take] | rw [walk_run] | rw [again_cons]); intro Z hZ; simp only [sel, List.getElem?_toArray, List.getElem?_cons_zero, List.getElem?_cons_succ]; go_wp2_with (fail)))
              refine (number_any _ x.f HX.out.f1).mono ?_
              rintro e wq ⟨rfl, hwq⟩
              rw [hwq, hdx]
              clear hwq wq
              go_wp2_with fail
              repeat' (first | (refine hZ _ _ ?_; clear hZ) | (refine hZ _ ?_; clear hZ) | (refine hZ ?_; clear hZ) | rw [again_nil] | rw [walk_fin] | ((first | rw [walk_take] | rw [walk_run] | rw [again_cons]); intro Z hZ; simp only [sel, List.getElem?_toArray, List.getElem?_cons_zero, List.getElem?_cons_succ]; go_wp2_with (fail)))
              refine (number_any _ y.f HY.out.f1).mono ?_
              rintro e wq ⟨rfl, hwq⟩
              rw [hwq, hdy]
              clear hwq wq
              go_wp2_with fail
              repeat' (first | (refine hZ _ _ ?_; clear hZ) | (refine hZ _ ?_; clear hZ) | (refine hZ ?_; clear hZ) | rw [again_nil] | rw [walk_fin] | ((first | rw [walk_take] | rw [walk_run] | rw [again_cons]); intro Z hZ; simp only [sel, List.getElem?_toArray, List.getElem?_cons_zero, List.getElem?_cons_succ]; go_wp2_with (fail)))
              refine (number_any _ x.f HX.out.f1).mono ?_
              rintro e wq ⟨rfl, hwq⟩
              rw [hwq, hdx]
              clear hwq wq
              go_wp2_with fail
              repeat' (first | (refine hZ _ _ ?_; clear hZ) | (refine hZ _ ?_; clear hZ) | (refine hZ ?_; clear hZ) | rw [again_nil] | rw [walk_fin] | ((first | rw [walk_take] | rw [walk_run] | rw [again_cons]); intro Z hZ; simp only [sel, List.getElem?_toArray, List.getElem?_cons_zero, List.getElem?_cons_succ]; go_wp2_with (fail)))
              go_wp2_with fail
              go_ret
              exact ⟨by rw [HV.out]; rfl, HB.out.drewR⟩
      · have HV : Hid (decide (eqV x y) = false) := decide_eq_false fun h => e3 h.2.2.1
        have hss : (x.s == y.s) = false := by simpa using e3
        clear e1 e2
        refine wp_region_plan (.take 0 (.take 1 (.take 2 (.take 3 (.take 4 (.take 5 (.take 6 (.take 7 (.take 8 (.take 9 (.take 10 (.take 11 (.take 12 (.take 13 (.take 14 (.take 15 (.take 16 (.take 17 (.take 18 (.take 19 (.take 20 (.take 21 (.take 23 (.take 24 (.run 22 [23, 24] (.run 25 [] (.take 26 (.take 27 (.take 28 (.take 29 (.run 30 [] (.take 31 (.take 32 (.take 33 (.take 34 (.take 35 (.take 36 (.take 37 (.take 38 (.take 39 (.take 40 (.take 42 (.take 43 (.run 41 [42, 43] (.run 44 [] (.take 45 (.take 46 (.take 47 (.take 48 (.take 49 (.take 50 .fin))))))))))))))))))))))))))))))))))))))))))))))))))) (by kernel_rfl) (by kernel_rfl) (by kernel_rfl) (by kernel_rfl) ?_
        repeat' (first | (refine hZ _ _ ?_; clear hZ) | (refine hZ _ ?_; clear hZ) | (refine hZ ?_; clear hZ) | rw [again_nil] | rw [walk_fin] | ((first | rw [walk_take] | rw [walk_run] | rw [again_cons]); intro Z hZ; simp only [sel, List.getElem?_toArray, List.getElem?_cons_zero, List.getElem?_cons_succ]; go_wp2_with (fail)))
        go_wp2_with fail
        go_ret
        exact ⟨by rw [HV.out]; rfl, HB.out.drewR⟩
    · have HV : Hid (decide (eqV x y) = false) := decide_eq_false fun h => e2 h.2.1
      clear e1
      refine wp_region_plan (.take 0 (.take 1 (.take 2 (.take 3 (.take 4 (.take 5 (.take 6 (.take 7 (.take 8 (.take 9 (.take 10 (.take 11 (.take 12 (.take 13 (.take 14 (.take 15 (.take 16 (.take 17 (.take 18 (.take 19 (.take 20 (.take 21 (.take 23 (.take 24 (.run 22 [23, 24] (.run 25 [] (.take 26 (.take 27 (.take 28 (.take 29 (.run 30 [] (.take 31 (.take 32 (.take 33 (.take 34 (.take 35 (.take 36 (.take 37 (.take 38 (.take 39 (.take 40 (.take 42 (.take 43 (.run 41 [42, 43] (.run 44 [] (.take 45 (.take 46 (.take 47 (.take 48 (.take 49 (.take 50 .fin))))))))))))))))))))))))))))))))))))))))))))))))))) (by kernel_rfl) (by kernel_rfl) (by kernel_rfl) (by kernel_rfl) ?_
      repeat' (first | (refine hZ _ _ ?_; clear hZ) | (refine hZ _ ?_; clear hZ) | (refine hZ ?_; clear hZ) | rw [again_nil] | rw [walk_fin] | ((first | rw [walk_take] | rw [walk_run] | rw [again_cons]); intro Z hZ; simp only [sel, List.getElem?_toArray, List.getElem?_cons_zero, List.getElem?_cons_succ]; go_wp2_with (fail)))
      go_wp2_with fail
      go_ret
      exact ⟨by rw [HV.out]; rfl, HB.out.drewR⟩
  · have HV : Hid (decide (eqV x y) = false) := decide_eq_false fun h => e1 h.1
    refine wp_region_plan (.take 0 (.take 1 (.take 2 (.take 3 (.take 4 (.take 5 (.take 6 (.take 7 (.take 8 (.take 9 (.take 10 (.take 11 (.take 12 (.take 13 (.take 14 (.take 15 (.take 16 (.take 17 (.take 18 (.take 19 (.take 20 (.take 21 (.take 23 (.take 24 (.run 22 [23, 24] (.run 25 [] (.take 26 (.take 27 (.take 28 (.take 29 (.run 30 [] (.take 31 (.take 32 (.take 33 (.take 34 (.take 35 (.take 36 (.take 37 (.take 38 (.take 39 (.take 40 (.take 42 (.take 43 (.run 41 [42, 43] (.run 44 [] (.take 45 (.take 46 (.take 47 (.take 48 (.take 49 (.take 50 .fin))))))))))))))))))))))))))))))))))))))))))))))))))) (by kernel_rfl) (by kernel_rfl) (by kernel_rfl) (by kernel_rfl) ?_
    repeat' (first | (refine hZ _ _ ?_; clear hZ) | (refine hZ _ ?_; clear hZ) | (refine hZ ?_; clear hZ) | rw [again_nil] | rw [walk_fin] | ((first | rw [walk_take] | rw [walk_run] | rw [again_cons]); intro Z hZ; simp only [sel, List.getElem?_toArray, List.getElem?_cons_zero, List.getElem?_cons_succ]; go_wp2_with (fail)))
    go_wp2_with fail
    go_ret
    exact ⟨by rw [HV.out]; rfl, HB.out.drewR⟩
end Go.Proofs.YtknfnhmkiooifaaDoor
end

section
/-
  The contract of dowserlaw08.exact.
-/
namespace Go.Proofs.YtknfnhmkiooifaaDoor
set_option linter.unusedSimpArgs false
set_option linter.unusedVariables false
open Go.RowKit

def exactB (X Y : List Va) : Bool := decide (X.length = Y.length) && (X.zip Y).all fun p => decide (eqV p.1 p.2)
/-- Lists of clean values. -/
structure CleanL (L : List Va) : Prop where
  len : L.length ≤ 1000
  ok : ∀ v ∈ L, v.ok
  cl : ∀ v ∈ L, Key.Clean v
theorem cleanL_of {L : List Va} (h : Few L) : CleanL (L.map Key.dclean) := by
  refine ⟨by simpa using h.len, fun v hv => ?_, fun v hv => ?_⟩
  · obtain ⟨u, hu, rfl⟩ := List.mem_map.1 hv; exact Key.dclean_ok (h.ok u hu)
  · obtain ⟨u, hu, rfl⟩ := List.mem_map.1 hv; exact Key.clean_of u
theorem exact_no {X Y : List Va} {k : Nat} (h1 : k < X.length) (h2 : k < Y.length) (h : ¬ eqV X[k] Y[k]) : exactB X Y = false := by
  unfold exactB
  have : ((X.zip Y).all fun p => decide (eqV p.1 p.2)) = false := by
    rw [List.all_eq_false]
    refine ⟨(X[k], Y[k]), ?_, by simpa using h⟩
    have hz : k < (X.zip Y).length := by simp; omega
    have : (X.zip Y)[k] = (X[k], Y[k]) := by simp
    rw [← this]
    exact List.getElem_mem hz
  rw [this, Bool.and_false]
theorem exact_yes {X Y : List Va} (hl : X.length = Y.length) (h : ∀ k (h1 : k < X.length) (h2 : k < Y.length), eqV X[k] Y[k]) : exactB X Y = true := by
  unfold exactB
  rw [decide_eq_true hl, Bool.true_and, List.all_eq_true]
  intro p hp
  obtain ⟨k, hk, rfl⟩ := List.getElem_of_mem hp
  have h1 : k < X.length := by simp at hk; omega
  have h2 : k < Y.length := by omega
  simpa using h k h1 h2
set_option maxRecDepth 20000 in
set_option maxHeartbeats 8000000 in
theorem lexact_any (w : World) (A B : Option Addr) (c d : Nat) (X Y : List Va) (hx : ERow eVa w A X) (hy : ERow eVa w B Y) (cx : CleanL X) (cy : CleanL Y) :
    Calls Tryd.prog 21 #[.slice A X.length c, .slice B Y.length d] w fun e w' => e = .returned (.bool (exactB X Y)) ∧ Below w.heap.size w w' := by
  have HX := Lib.hid hx
  have HY := Lib.hid hy
  have HCX := Lib.hid cx
  have HCY := Lib.hid cy
  have hnx := cx.len
  have hny := cy.len
  clear hx hy cx cy
  go_enter Tryd.func21, Tryd.ntmps21
  by_cases hl : X.length = Y.length
  · have HL := Lib.hid hl
    rw [hl]
    clear hl hnx
    go_wp2_with fail
    go_loopw [13] (fun iv wr => ∃ k : Nat, k ≤ Y.length ∧ iv = .int .i64 (k : Int) ∧ Hid ((∀ i (h1 : i < X.length) (h2 : i < Y.length), i < k → eqV X[i] Y[i]) ∧ Below w.heap.size w wr)) (fun iv _ => Y.length - (intOf iv).toNat)
    case atStart => exact ⟨0, Nat.zero_le _, rfl, by intro i _ _ h; omega, Below.refl _ _⟩
    case round =>
      obtain ⟨k, hk, rfl, HJ⟩ := hrel
      by_cases hlt : k < Y.length
      · have hii : (k : Int) < (Y.length : Int) := by omega
        have hlt2 : k < X.length := by rw [HL.out]; exact hlt
        obtain ⟨ba, oa, rfl, hba, -⟩ := HX.out.at_ hlt2
        obtain ⟨bb, ob, rfl, hbb, -⟩ := HY.out.at_ hlt
        have HXd := Lib.hid ((HX.out.below HJ.out.2).below (Below.refl _ _).drewR)
        have HYd := Lib.hid ((HY.out.below HJ.out.2).below (Below.refl _ _).drewR)
        have HO := Lib.hid (And.intro (HCX.out.ok _ (List.getElem_mem hlt2)) (And.intro (HCY.out.ok _ (List.getElem_mem hlt)) (And.intro (HCX.out.cl _ (List.getElem_mem hlt2)) (HCY.out.cl _ (List.getElem_mem hlt)))))
        go_upto_region 6 with fail
        refine wp_region_plan (.take 0 (.take 1 (.take 2 (.take 3 (.take 4 (.take 5 (.take 6 (.take 7 (.run 8 [] (.take 9 .fin)))))))))) (by kernel_rfl) (by kernel_rfl) (by kernel_rfl) (by kernel_rfl) ?_
        repeat' (first | (refine hZ _ _ ?_; clear hZ) | (refine hZ _ ?_; clear hZ) | (refine hZ ?_; clear hZ) | rw [again_nil] | rw [walk_fin] | ((first | rw [walk_take] | rw [walk_run] | rw [again_cons]); intro Z hZ; simp only [sel, List.getElem?_toArray, List.getElem?_cons_zero, List.getElem?_cons_succ]; go_wp2_with (first | (refine wpList_load_va_at rfl (.tmp 18) rfl HXd.out hlt2 rfl ?_) | (refine wpList_load_va_at rfl (.tmp 22) rfl HYd.out hlt rfl ?_))))
        refine (vexact_any _ X[k] Y[k] HO.out.1 HO.out.2.1 HO.out.2.2.1 HO.out.2.2.2).mono ?_
        rintro e W4 ⟨rfl, hb4⟩
        have HB4 := Lib.hid (HJ.out.2.then ((Below.refl _ _).drewR.then hb4))
        clear hb4
        by_cases he : eqV X[k] Y[k]
        · have HE := Lib.hid he
          rw [decide_eq_true he]
          clear he
          go_wp2_with fail
          repeat' (first | (refine hZ _ _ ?_; clear hZ) | (refine hZ _ ?_; clear hZ) | (refine hZ ?_; clear hZ) | rw [again_nil] | rw [walk_fin] | ((first | rw [walk_take] | rw [walk_run] | rw [again_cons]); intro Z hZ; simp only [sel, List.getElem?_toArray, List.getElem?_cons_zero, List.getElem?_cons_succ]; go_wp2_with (fail)))
          go_wp2_with fail
          go_roundw
          case rel =>
            refine ⟨k + 1, by omega, by go_num, ?_, HB4.out⟩
            intro i h1 h2 h3
            by_cases hik : i < k
            · exact HJ.out.1 i h1 h2 hik
            · obtain rfl : i = k := by omega
              exact HE.out
          case measure => simp [intOf]; omega
        · have HV := Lib.hid (exact_no hlt2 hlt he)
          rw [decide_eq_false he]
          clear he
          go_wp2_with fail
          repeat' (first | (refine hZ _ _ ?_; clear hZ) | (refine hZ _ ?_; clear hZ) | (refine hZ ?_; clear hZ) | rw [again_nil] | rw [walk_fin] | ((first | rw [walk_take] | rw [walk_run] | rw [again_cons]); intro Z hZ; simp only [sel, List.getElem?_toArray, List.getElem?_cons_zero, List.getElem?_cons_succ]; go_wp2_with (fail)))
          go_wp2_with fail
          go_ret
          exact ⟨by rw [HV.out]; rfl, HB4.out⟩
      · obtain rfl : k = Y.length := by omega
        have HV := Lib.hid (exact_yes HL.out fun i h1 h2 => HJ.out.1 i h1 h2 h2)
        go_wp2_with fail
        go_ret
        exact ⟨by rw [HV.out]; rfl, HJ.out.2⟩
  · have HV : Hid (exactB X Y = false) := by show _ = _; unfold exactB; rw [decide_eq_false hl]; rfl
    have hli : ¬ (X.length : Int) = (Y.length : Int) := by omega
    clear hl
    go_wp2_with fail
    go_ret
    exact ⟨by rw [HV.out]; rfl, Below.refl _ _⟩
end Go.Proofs.YtknfnhmkiooifaaDoor
end

section
/-
  Rows and keys of unlike values are unlike (plain).
-/
namespace Go.Proofs.YtknfnhmkiooifaaDoor
set_option linter.unusedSimpArgs false
set_option linter.unusedVariables false
open Go.RowKit

namespace Key
theorem rowOf_clean (v : Va) : rowOf (clean v) = rowOf (dclean v) := by
  by_cases k1 : v.k = 1
  · rw [Va.clean1 k1, Va.dclean1 k1]
  by_cases k2 : v.k = 2
  · rw [Va.clean2 k2, Va.dclean2 k2]
    show (2 : UInt8) :: Wire.num (pbits (real1 v.f)) = 2 :: Wire.num (pbits (real0 v.f))
    rw [pbits_real]
  by_cases k3 : v.k = 3
  · rw [Va.clean3 k3, Va.dclean3 k3]
  by_cases k4 : v.k = 4
  · rw [Va.clean4 k4, Va.dclean4 k4]
  · rw [Va.clean0 k1 k2 k3 k4, Va.dclean0 k1 k2 k3 k4]
theorem row_clean (L : List Va) : row L = Wire.num (L.map dclean).length ++ (L.map dclean).flatMap rowOf := by
  unfold row
  rw [List.flatMap_map, List.length_map]
  congr 2
  funext v
  exact rowOf_clean v
theorem pbits_inj {f g : Nat} (hf : f < 18446744073709551616) (hg : g < 18446744073709551616) (h : pbits f = pbits g) : (fnan f ↔ fnan g) ∧ (fnan f ∨ f = g) := by
  unfold pbits at h
  by_cases nf : fnan f <;> by_cases ng : fnan g
  · exact ⟨⟨fun _ => ng, fun _ => nf⟩, .inl nf⟩
  · rw [if_pos nf, if_neg ng] at h; have := kbits_max hg ng; omega
  · rw [if_neg nf, if_pos ng] at h; have := kbits_max hf nf; omega
  · rw [if_neg nf, if_neg ng] at h
    refine ⟨⟨fun h => absurd h nf, fun h => absurd h ng⟩, .inr ?_⟩
    unfold kbits at h
    split at h <;> split at h <;> omega
theorem ofInt_inj {n m : Int} (h : Wire.ofInt n = Wire.ofInt m) : n = m := by
  rw [← Wire.toInt_ofInt n, ← Wire.toInt_ofInt m, h]
/-- No value's bytes in a row begin another one's. -/
theorem rowOf_apart {x y : Va} (hx : x.ok) (hy : y.ok) (cx : Clean x) (cy : Clean y) (lx : x.s.length ≤ 1000) (ly : y.s.length ≤ 1000) {s t : List UInt8} (h : rowOf x ++ s = rowOf y ++ t) : eqV x y ∧ s = t := by
  unfold rowOf at h
  rw [List.cons_append, List.cons_append, List.cons.injEq] at h
  obtain ⟨h0, h⟩ := h
  have hk : x.k = y.k := by
    have h1 := congrArg UInt8.toNat h0
    simp only [UInt8.toNat_ofNat'] at h1
    rcases cx.kind with e | e | e | e | e <;> rcases cy.kind with e' | e' | e' | e' | e' <;> rw [e, e'] at h1 ⊢ <;> simp at h1
  clear h0
  have hn : x.k ≠ 1 → x.k ≠ 4 → x.n = y.n := fun h1 h2 => by rw [cx.nn h1 h2, cy.nn (by omega) (by omega)]
  have hf : x.k ≠ 2 → x.f = y.f := fun h1 => by rw [cx.ff h1, cy.ff (by omega)]
  have hs : x.k ≠ 3 → x.s = y.s := fun h1 => by rw [cx.ss h1, cy.ss (by omega)]
  have hff : x.f = y.f → (fnan x.f ↔ fnan y.f) ∧ (fnan x.f ∨ x.f = y.f) := fun e => ⟨by rw [e], .inr e⟩
  unfold pay at h
  rcases cx.kind with e | e | e | e | e
  · have e' : y.k = 0 := by omega
    simp only [e, e'] at h
    have := hff (hf (by omega))
    exact ⟨⟨hk, hn (by omega) (by omega), hs (by omega), this.1, this.2⟩, by simpa using h⟩
  · have e' : y.k = 1 := by omega
    simp only [e, e', if_true] at h
    have hi := Wire.num_inj (Wire.ofInt_lt _ hx.n1 hx.n2) (Wire.ofInt_lt _ hy.n1 hy.n2) _ _ h
    have hxy := ofInt_inj hi
    rw [hxy] at h
    have := hff (hf (by omega))
    exact ⟨⟨hk, hxy, hs (by omega), this.1, this.2⟩, List.append_cancel_left h⟩
  · have e' : y.k = 2 := by omega
    rw [if_neg (by omega), if_pos e, if_neg (by omega), if_pos e'] at h
    have hi := Wire.num_inj (pbits_top hx.f1) (pbits_top hy.f1) _ _ h
    rw [hi] at h
    have := pbits_inj hx.f1 hy.f1 hi
    exact ⟨⟨hk, hn (by omega) (by omega), hs (by omega), this.1, this.2⟩, List.append_cancel_left h⟩
  · have e' : y.k = 3 := by omega
    rw [if_neg (by omega), if_neg (by omega), if_pos e, if_neg (by omega), if_neg (by omega), if_pos e'] at h
    unfold Wire.text at h
    rw [List.append_assoc, List.append_assoc] at h
    have hi := Wire.num_inj (by omega) (by omega) _ _ h
    rw [hi] at h
    have h2 := List.append_inj (List.append_cancel_left h) hi
    have := hff (hf (by omega))
    exact ⟨⟨hk, hn (by omega) (by omega), h2.1, this.1, this.2⟩, h2.2⟩
  · have e' : y.k = 4 := by omega
    rw [if_neg (show ¬ x.k = 1 by omega), if_neg (show ¬ x.k = 2 by omega), if_neg (show ¬ x.k = 3 by omega), if_pos e, if_neg (show ¬ y.k = 1 by omega), if_neg (show ¬ y.k = 2 by omega), if_neg (show ¬ y.k = 3 by omega), if_pos e'] at h
    rw [List.singleton_append, List.singleton_append, List.cons.injEq] at h
    have hxy : x.n = y.n := by
      rcases cx.bb e with b | b <;> rcases cy.bb e' with b' | b' <;> rw [b, b'] at h ⊢ <;> simp at h
    have := hff (hf (by omega))
    exact ⟨⟨hk, hxy, hs (by omega), this.1, this.2⟩, h.2⟩
theorem rowOf_same {x y : Va} (h : eqV x y) : rowOf x = rowOf y := by
  obtain ⟨hk, hn, hs, h1, h2⟩ := h
  unfold rowOf pay
  rw [hk, hn, hs]
  have : pbits x.f = pbits y.f := by
    rcases h2 with h2 | h2
    · unfold pbits; rw [if_pos h2, if_pos (h1.1 h2)]
    · rw [h2]
  rw [this]
theorem exactB_cons (x y : Va) (X Y : List Va) : exactB (x :: X) (y :: Y) = (decide (eqV x y) && exactB X Y) := by
  unfold exactB
  simp only [List.length_cons, List.zip_cons_cons, List.all_cons, Nat.add_right_cancel_iff]
  cases decide (X.length = Y.length) <;> cases decide (eqV x y) <;> rfl
def CleanS (L : List Va) : Prop := ∀ v ∈ L, v.ok ∧ Clean v ∧ v.s.length ≤ 1000
theorem rows_apart : ∀ (X Y : List Va), X.length = Y.length → CleanS X → CleanS Y → (decide (X.flatMap rowOf = Y.flatMap rowOf) = exactB X Y)
  | [], [], _, _, _ => rfl
  | x :: X, y :: Y, hl, hx, hy => by
    have ih := rows_apart X Y (by simpa using hl) (fun v hv => hx v (by simp [hv])) (fun v hv => hy v (by simp [hv]))
    rw [exactB_cons, ← ih, List.flatMap_cons, List.flatMap_cons]
    obtain ⟨ox, cx, sx⟩ := hx x (by simp)
    obtain ⟨oy, cy, sy⟩ := hy y (by simp)
    by_cases h : rowOf x ++ X.flatMap rowOf = rowOf y ++ Y.flatMap rowOf
    · obtain ⟨h1, h2⟩ := rowOf_apart ox oy cx cy sx sy h
      rw [decide_eq_true h, decide_eq_true h1, decide_eq_true h2]; rfl
    · rw [decide_eq_false h]
      by_cases h1 : eqV x y
      · rw [decide_eq_true h1, Bool.true_and]
        rw [eq_comm, decide_eq_false_iff_not]
        intro h2
        exact h (by rw [rowOf_same h1, h2])
      · rw [decide_eq_false h1]; rfl
theorem row_exact (L M : List Va) (hl : L.length ≤ 1000) (hm : M.length ≤ 1000) (cx : CleanS (L.map dclean)) (cy : CleanS (M.map dclean)) : (row L == row M) = exactB (L.map dclean) (M.map dclean) := by
  rw [row_clean, row_clean]
  by_cases h : L.length = M.length
  · have h' : (L.map dclean).length = (M.map dclean).length := by simpa using h
    rw [← rows_apart _ _ h' cx cy, h']
    by_cases e : (L.map dclean).flatMap rowOf = (M.map dclean).flatMap rowOf
    · rw [e]; simp
    · rw [decide_eq_false e, beq_eq_false_iff_ne]
      intro e'
      exact e (List.append_cancel_left e')
  · have : exactB (L.map dclean) (M.map dclean) = false := by unfold exactB; rw [decide_eq_false (by simpa using h)]; rfl
    rw [this, beq_eq_false_iff_ne]
    intro e
    have := Wire.num_inj (by simp; omega) (by simp; omega) _ _ e
    simp at this
    exact h this
theorem vord_eqV {x y : Va} (hx : x.ok) (hy : y.ok) (cx : Clean x) (cy : Clean y) (hk : x.k = y.k) : vord x y = 0 ↔ eqV x y := by
  have hv : vord x y = 0 ↔ ¬ vless x y ∧ ¬ vless y x := by
    unfold vord
    by_cases h1 : vless x y
    · rw [if_pos h1]; simp [h1]
    · rw [if_neg h1]
      by_cases h2 : vless y x
      · rw [if_pos h2]; simp [h2]
      · rw [if_neg h2]; simp [h1, h2]
  rw [hv]
  have hn : x.k ≠ 1 → x.k ≠ 4 → x.n = y.n := fun h1 h2 => by rw [cx.nn h1 h2, cy.nn (by omega) (by omega)]
  have hf : x.k ≠ 2 → x.f = y.f := fun h1 => by rw [cx.ff h1, cy.ff (by omega)]
  have hs : x.k ≠ 3 → x.s = y.s := fun h1 => by rw [cx.ss h1, cy.ss (by omega)]
  by_cases k2 : x.k = 2
  · rw [vless_real hk k2, vless_real hk.symm (by omega)]
    constructor
    · rintro ⟨h1, h2⟩
      refine ⟨hk, hn (by omega) (by omega), hs (by omega), ?_⟩
      by_cases nx : fnan x.f <;> by_cases ny : fnan y.f
      · exact ⟨⟨fun _ => ny, fun _ => nx⟩, .inl nx⟩
      · exact absurd (.inl ⟨ny, nx⟩) h2
      · exact absurd (.inl ⟨nx, ny⟩) h1
      · refine ⟨⟨fun h => absurd h nx, fun h => absurd h ny⟩, .inr (fsg_inj hx.f1 hy.f1 cx.zz cy.zz ?_)⟩
        have a1 : ¬ fsg x.f < fsg y.f := fun h => h1 (.inr ⟨nx, ny, h⟩)
        have a2 : ¬ fsg y.f < fsg x.f := fun h => h2 (.inr ⟨ny, nx, h⟩)
        exact Int.le_antisymm (Int.not_lt.1 a2) (Int.not_lt.1 a1)
    · rintro ⟨-, -, -, h1, h2⟩
      constructor
      · rintro (⟨a, b⟩ | ⟨a, b, c⟩)
        · exact a (h1.2 b)
        · rcases h2 with h2 | h2
          · exact a h2
          · rw [h2] at c; omega
      · rintro (⟨a, b⟩ | ⟨a, b, c⟩)
        · exact a (h1.1 b)
        · rcases h2 with h2 | h2
          · exact b h2
          · rw [h2] at c; omega
  by_cases k3 : x.k = 3
  · rw [vless_text hk k3, vless_text hk.symm (by omega)]
    have hff := hf (by omega)
    constructor
    · rintro ⟨h1, h2⟩
      exact ⟨hk, hn (by omega) (by omega), less_total _ _ (by simpa using h1) (by simpa using h2), by rw [hff], .inr hff⟩
    · rintro ⟨-, -, h, -⟩
      rw [h, less_irrefl]; simp
  · rw [vless_num hk k2 k3, vless_num hk.symm (by omega) (by omega)]
    have hff := hf (by omega)
    constructor
    · rintro ⟨h1, h2⟩
      exact ⟨hk, by omega, hs k3, by rw [hff], .inr hff⟩
    · rintro ⟨-, h, -⟩
      omega
theorem want_exact : ∀ (X Y : List Va), X.length = Y.length → CleanS X → CleanS Y → (∀ p ∈ X.zip Y, p.1.k = p.2.k) → (wantOf (X.zip Y) = 0 ↔ exactB X Y = true)
  | [], [], _, _, _, _ => by simp [wantOf, exactB]
  | x :: X, y :: Y, hl, hx, hy, hk => by
    have ih := want_exact X Y (by simpa using hl) (fun v hv => hx v (by simp [hv])) (fun v hv => hy v (by simp [hv])) (fun p hp => hk p (by simp [hp]))
    have hv := vord_eqV (hx x (by simp)).1 (hy y (by simp)).1 (hx x (by simp)).2.1 (hy y (by simp)).2.1 (hk (x, y) (by simp))
    rw [exactB_cons, Bool.and_eq_true, decide_eq_true_eq, ← hv, ← ih]
    simp only [List.zip_cons_cons, wantOf]
    by_cases h : vord x y = 0
    · rw [if_pos h]; simp [h]
    · rw [if_neg h]; simp [h]
theorem key_exact (L M : List Va) (hl : L.length = M.length) (cx : CleanS (L.map dclean)) (cy : CleanS (M.map dclean)) (hk : ∀ p ∈ (L.map dclean).zip (M.map dclean), p.1.k = p.2.k) : (key L == key M) = exactB (L.map dclean) (M.map dclean) := by
  have hl' : (L.map dclean).length = (M.map dclean).length := by simpa using hl
  have hw := want_exact _ _ hl' cx cy hk
  have ha := keys_ahead ((L.map dclean).zip (M.map dclean)) (fun p hp => by
    have h1 := List.of_mem_zip hp
    have a := cx _ h1.1
    have b := cy _ h1.2
    exact ⟨a.1, b.1, a.2.1, b.2.1, .inl (hk p hp)⟩)
  rw [List.map_fst_zip (by omega), List.map_snd_zip (by omega), ← key_clean, ← key_clean] at ha
  rcases ha with ⟨h1, h2⟩ | ⟨h1, h2⟩ | ⟨h1, h2⟩
  · rw [hw.1 h1, h2]; simp
  · have : exactB (L.map dclean) (M.map dclean) = false := by
      cases he : exactB (L.map dclean) (M.map dclean) with
      | false => rfl
      | true => have := hw.2 he; omega
    rw [this, beq_eq_false_iff_ne]
    exact h2.ne
  · have : exactB (L.map dclean) (M.map dclean) = false := by
      cases he : exactB (L.map dclean) (M.map dclean) with
      | false => rfl
      | true => have := hw.2 he; omega
    rw [this, beq_eq_false_iff_ne]
    exact h2.ne.symm
end Key
end Go.Proofs.YtknfnhmkiooifaaDoor
end

