/-
  Texts of a proof, one behind the other (each with its own head).
-/
import Derived.Test.YtknfnhmkiooifaaDoorPartClblbiohi
section
/-
  The contract of key.Part.
-/
namespace Go.Proofs.YtknfnhmkiooifaaDoor
set_option linter.unusedSimpArgs false
set_option linter.unusedVariables false
open Go.RowKit

theorem max_xor {f : Nat} (h : f < 18446744073709551616) : 18446744073709551615 ^^^ f = 18446744073709551615 - f := by
  have e1 : (18446744073709551615 : Nat) = 2 ^ 64 - 1 := by decide
  have e2 : 18446744073709551615 - f = 2 ^ 64 - (f + 1) := by
    have : (2 : Nat) ^ 64 = 18446744073709551616 := by decide
    omega
  rw [e2, e1]
  apply Nat.eq_of_testBit_eq
  intro i
  rw [Nat.testBit_xor, Nat.testBit_two_pow_sub_one, Nat.testBit_two_pow_sub_succ h]
  by_cases hi : i < 64
  · simp [hi]
  · have : f.testBit i = false := Nat.testBit_lt_two_pow (Nat.lt_of_lt_of_le (show f < 2 ^ 64 from h) (Nat.pow_le_pow_right (by decide) (Nat.le_of_not_lt hi)))
    simp [hi, this]
theorem not_u64 {f : Nat} (h : f < 18446744073709551616) : Go.Op.unary .xor (.int .u64 (f : Int)) = pure (.int .u64 ((18446744073709551615 - f : Nat) : Int)) := by
  have h1 := u64_xor_nat 18446744073709551615 f (by decide) h
  rw [max_xor h] at h1
  rw [← h1]
  rfl
set_option maxRecDepth 20000 in
set_option maxHeartbeats 1000000 in
theorem kbits_any (w : World) (f : Nat) (hf : f < two64) : Calls Tryd.prog 65 #[.float .f64 f] w fun e w' => e = .returned (.int .u64 (Key.kbits f : Nat)) ∧ w' = w := by
  have HF := Lib.hid hf
  have h1 : (f : Int) < 18446744073709551616 := by have := two64_eq; omega
  go_enter Tryd.func65, Tryd.ntmps65
  have hx : (Extern.MathFloatBits.float64bits #[.float .f64 f]).run Tryd.prog w = .ok (.int .u64 (f : Int)) w := rfl
  go_wp2_with fail
  rw [run_callFunc_extern Tryd.func84 (by kernel_rfl) (by kernel_rfl) (by kernel_rfl) (e := Extern.MathFloatBits.float64bits) (by kernel_rfl), hx]
  simp only [Result.andThen]
  rw [Oper.upon_value]
  have hun := not_u64 (show f < 18446744073709551616 from hf)
  by_cases ht : 9223372036854775808 ≤ f
  · have hi : (9223372036854775808 : Int) ≤ (f : Int) := by omega
    have HK : Hid (Key.kbits f = 18446744073709551615 - f) := by show _ = _; unfold Key.kbits; rw [if_pos ht]
    clear ht hf
    generalize 18446744073709551615 - f = m at hun HK
    go_wp2_with fail
    go_ret
    exact ⟨by rw [HK.out]; rfl, rfl⟩
  · have hi : ¬ (9223372036854775808 : Int) ≤ (f : Int) := by omega
    have HK : Hid (Key.kbits f = f + 9223372036854775808) := by show _ = _; unfold Key.kbits; rw [if_neg ht]
    have HO := Lib.hid (u64_or_nat f 9223372036854775808 hf (by decide))
    have HT := Lib.hid (or_top (n := f) (by omega))
    clear ht hf hun
    go_wp2_with fail
    go_ret
    refine ⟨?_, rfl⟩
    show Ending.returned (.int .u64 (Go.bits .or .u64 (f : Int) 9223372036854775808)) = _
    rw [show (9223372036854775808 : Int) = ((9223372036854775808 : Nat) : Int) from rfl, HO.out, HT.out, HK.out]

theorem run_str_bytes2 (w : World) (l : List UInt8) : ∃ c W, (convert 9 30 (txt l)).run Tryd.prog w = .ok (.slice (some ⟨w.heap.size, 0, none⟩) l.length c) W ∧ BRow W (some ⟨w.heap.size, 0, none⟩) l ∧ Below w.heap.size w W ∧ w.heap.size < W.heap.size ∧ l.length ≤ c ∧ ∀ j, j < l.length → W.frozen? ⟨w.heap.size, j, none⟩ = false := by
  have h := run_bytes_of_string (P := Tryd.prog) w 9 30 5 ⟨l.toArray⟩ Tryd.underlying9 Tryd.underlying30 Tryd.underlying5
  have hs : (ByteArray.mk l.toArray).size = l.length := by simp [ByteArray.size]
  rw [hs] at h
  have hge := grownCap_ge w l.length 0 5
  generalize hC : grownCap w l.length 0 5 = cap at h hge
  clear hC
  have hB : bytesRow ⟨l.toArray⟩ cap = (l.map bv ++ List.replicate (cap - l.length) (Value.int .u8 0)).toArray := by
    unfold bytesRow
    rw [hs]
    apply Array.ext'
    simp [bv]
  refine ⟨cap, _, h, ?_, (Below.refl _ w).drewR.alloc (Nat.le_refl _) _, by simp [World.alloc], hge, fun j hj => ?_⟩
  · intro hl
    refine ⟨w.heap.size, 0, rfl, by simp [World.alloc], fun j hj => ?_⟩
    have hjl : j < l.length := by simpa using hj
    unfold World.cell? World.alloc
    have hd : w.drew.heap = w.heap := rfl
    simp [hB, hd]
    rw [List.getElem?_append_left (by simpa using hjl)]
    simp [hjl]
  · unfold World.frozen? World.alloc
    have hd : w.drew.heap = w.heap := rfl
    simp [hB, hd]
    omega
set_option maxRecDepth 20000 in
set_option maxHeartbeats 1000000 in
theorem breplaceall_any (w : World) (A B C : Option Addr) (c d k : Nat) (l : List UInt8) (hr : BRow w A l) (hs : BRow w B [0]) (hy : BRow w C [0, 255]) (hl : l.length ≤ 1000000) (hlc : l.length ≤ c) :
    Calls Tryd.prog 66 #[.slice A l.length c, .slice B 1 d, .slice C 2 k] w (RetB w (Key.esc l)) := by
  have HC := Lib.hid (breplace_any w A B C c d k l hr hs hy hl hlc)
  go_enter Tryd.func66, Tryd.ntmps66
  go_wp2_with fail
  refine HC.out.mono ?_
  rintro e w1 ⟨A1, c1, rfl, ho, hb⟩
  go_wp2_with fail
  go_ret
  exact ⟨A1, c1, rfl, ho, hb⟩
theorem ret_lit {w W : World} {l : List UInt8} (h : BRow W (some ⟨w.heap.size, 0, none⟩) l) (hb : Below w.heap.size w W) : RetR w l (.returned (.slice (some ⟨w.heap.size, 0, none⟩) l.length l.length)) W := ⟨_, _, rfl, h, Nat.le_refl _, hb⟩
set_option maxRecDepth 20000 in
set_option maxHeartbeats 4000000 in
theorem part_any (w : World) (v : Va) (hv : v.ok) (hs : v.s.length ≤ 1000) : Calls Tryd.prog 28 #[v.v] w (RetR w (Key.part (Key.clean v))) := by
  have HV := Lib.hid hv
  have HVC := Lib.hid (Key.clean_ok hv)
  have HS := Lib.hid hs
  clear hv hs
  go_enter Tryd.func28, Tryd.ntmps28
  go_upto_region 1 with (refine wpList_box_va rfl (.tmp 0) rfl v rfl ?_; intro W1 hb1 hz1 hB1)
  go_wp2_with (refine wpList_load_va rfl (.tmp 1) rfl w.heap.size rfl hb1 ?_)
  refine (clean_any _ v HV.out).mono ?_
  rintro e w2 ⟨rfl, hB2⟩
  have hb2 := hb1.below hB2
  have hB2' := hB1.trans (hB2.mono hB1.size)
  have hz2 := hB2.size
  clear hb1 hB1 hB2
  go_upto_region 2 with (refine wpList_store_va rfl rfl (.tmp 1) (.tmp 5) rfl w.heap.size rfl (Key.clean v) rfl hb2 ?_; intro w3 hb3 hg3)
  have hB3 := below_of_grown hB2' hg3 (Nat.le_refl _) (by omega)
  have hz3 := hg3.size
  clear hB2' hg3 hb2
  obtain ⟨c0, c1, c2, c3, -, -, -, -, hlt⟩ := Blk.c4 hb3
  have HB3 := Lib.hid hB3
  clear hB3 hb3
  by_cases k1 : v.k = 1
  · have HC := Lib.hid (Va.clean1 k1)
    simp only [HC.out] at c0 c1 c2 c3
    go_wp2_with fail
    rw [id_xor HV.out.n1 HV.out.n2]
    have HL : Hid (Key.idn v.n < two64) := Key.idn_lt HV.out.n1 HV.out.n2
    have H4 : Hid (BRow (w3.alloc (.cells #[.int .u8 1] 5)) (some ⟨w3.heap.size, 0, none⟩) [1] ∧ Below w.heap.size w (w3.alloc (.cells #[.int .u8 1] 5))) := ⟨BRow.one _ _ _ _ rfl, HB3.out.trans ((Below.alloc1 w3 _).mono HB3.out.size)⟩
    have HP : Hid (Key.part (Key.clean v) = [1] ++ Wal.hi8 (Key.idn v.n)) := by show _ = _; rw [HC.out, Key.part_int rfl]; rfl
    clear c0 c1 c2 c3 hlt
    generalize World.alloc w3 _ = w4 at H4 ⊢
    refine (khigh_any _ _ HL.out).mono ?_
    rintro e w5 ⟨A5, c5, rfl, hr5, -, hb5⟩
    have H5 := Lib.hid (And.intro (H4.out.1.below hb5) (And.intro (H4.out.2.trans (hb5.mono H4.out.2.size)) hr5))
    clear hr5 hb5 H4
    go_wp2_with fail
    refine (bconcat2 _ _ _ ⟨some ⟨w3.heap.size, 0, none⟩, 1, [1]⟩ ⟨A5, c5, Wal.hi8 (Key.idn v.n)⟩ (Row.new _ _ _) ⟨H5.out.1.alloc _, ?_⟩ ⟨H5.out.2.2.alloc _, ?_⟩ ?_).mono ?_
    · show 1 ≤ _; decide
    · simp [Wal.hi8_length]
    · simp [Wal.hi8_length]
    rintro e w6 ⟨A6, c6, rfl, ho6, hb6⟩
    go_wp2_with fail
    go_ret
    refine ⟨A6, c6, ?_, ?_, ?_, ?_⟩
    · rw [HP.out]; rfl
    · rw [HP.out]; exact ho6.row
    · rw [HP.out]; exact ho6.cap
    · exact H5.out.2.1.trans (((Below.alloc1 w5 _).then hb6).mono H5.out.2.1.size)
  by_cases k2 : v.k = 2
  · have HC := Lib.hid (Va.clean2 k2)
    simp only [HC.out] at c0 c1 c2 c3
    have HF : Hid (Key.real1 v.f < two64) := Key.real1_lt HV.out.f1
    generalize hf : Key.real1 v.f = f at HC HF c0 c1 c2 c3
    have HFF := Lib.hid hf
    clear hf
    go_wp2_with fail
    refine (isnan_any _ f HF.out).mono ?_
    rintro e wq ⟨rfl, hwq⟩
    rw [hwq]
    clear hwq wq
    by_cases hn : fnan f
    · have hd : decide (fnan f) = true := by simp [hn]
      have HP : Hid (Key.part (Key.clean v) = [1] ++ Wal.hi8 18446744073709551615) := by show _ = _; rw [HC.out, Key.part_real rfl]; unfold Key.pbits; rw [if_pos hn]; rfl
      rw [hd]
      clear hd hn
      go_wp2_with fail
      have H4 : Hid (BRow (w3.alloc (.cells #[.int .u8 1] 5)) (some ⟨w3.heap.size, 0, none⟩) [1] ∧ Below w.heap.size w (w3.alloc (.cells #[.int .u8 1] 5))) := ⟨BRow.one _ _ _ _ rfl, HB3.out.trans ((Below.alloc1 w3 _).mono HB3.out.size)⟩
      clear c0 c1 c2 c3 hlt
      generalize World.alloc w3 _ = w4 at H4 ⊢
      refine (khigh_any _ 18446744073709551615 (by decide)).mono ?_
      rintro e w5 ⟨A5, c5, rfl, hr5, -, hb5⟩
      have H5 := Lib.hid (And.intro (H4.out.1.below hb5) (And.intro (H4.out.2.trans (hb5.mono H4.out.2.size)) hr5))
      clear hr5 hb5 H4
      go_wp2_with fail
      refine (bconcat2 _ _ _ ⟨some ⟨w3.heap.size, 0, none⟩, 1, [1]⟩ ⟨A5, c5, Wal.hi8 18446744073709551615⟩ (Row.new _ _ _) ⟨H5.out.1.alloc _, ?_⟩ ⟨H5.out.2.2.alloc _, ?_⟩ ?_).mono ?_
      · show 1 ≤ _; decide
      · simp [Wal.hi8_length]
      · simp [Wal.hi8_length]
      rintro e w6 ⟨A6, c6, rfl, ho6, hb6⟩
      go_wp2_with fail
      go_ret
      refine ⟨A6, c6, ?_, ?_, ?_, ?_⟩
      · rw [HP.out]; rfl
      · rw [HP.out]; exact ho6.row
      · rw [HP.out]; exact ho6.cap
      · exact H5.out.2.1.trans (((Below.alloc1 w5 _).then hb6).mono H5.out.2.1.size)
    · have hd : decide (fnan f) = false := by simp [hn]
      have HP : Hid (Key.part (Key.clean v) = [1] ++ Wal.hi8 (Key.kbits f)) := by show _ = _; rw [HC.out, Key.part_real rfl]; unfold Key.pbits; rw [if_neg hn]; rfl
      have HK : Hid (Key.kbits f < two64) := Nat.lt_trans (Key.kbits_max HF.out hn) (by decide)
      rw [hd]
      clear hd hn
      go_wp2_with fail
      refine (kbits_any _ f HF.out).mono ?_
      rintro e wq ⟨rfl, hwq⟩
      rw [hwq]
      clear hwq
      go_wp2_with fail
      have H4 : Hid (BRow (w3.alloc (.cells #[.int .u8 1] 5)) (some ⟨w3.heap.size, 0, none⟩) [1] ∧ Below w.heap.size w (w3.alloc (.cells #[.int .u8 1] 5))) := ⟨BRow.one _ _ _ _ rfl, HB3.out.trans ((Below.alloc1 w3 _).mono HB3.out.size)⟩
      clear c0 c1 c2 c3 hlt
      generalize World.alloc w3 _ = w4 at H4 ⊢
      refine (khigh_any _ _ HK.out).mono ?_
      rintro e w5 ⟨A5, c5, rfl, hr5, -, hb5⟩
      have H5 := Lib.hid (And.intro (H4.out.1.below hb5) (And.intro (H4.out.2.trans (hb5.mono H4.out.2.size)) hr5))
      clear hr5 hb5 H4
      go_wp2_with fail
      refine (bconcat2 _ _ _ ⟨some ⟨w3.heap.size, 0, none⟩, 1, [1]⟩ ⟨A5, c5, Wal.hi8 (Key.kbits f)⟩ (Row.new _ _ _) ⟨H5.out.1.alloc _, ?_⟩ ⟨H5.out.2.2.alloc _, ?_⟩ ?_).mono ?_
      · show 1 ≤ _; decide
      · simp [Wal.hi8_length]
      · simp [Wal.hi8_length]
      rintro e w6 ⟨A6, c6, rfl, ho6, hb6⟩
      go_wp2_with fail
      go_ret
      refine ⟨A6, c6, ?_, ?_, ?_, ?_⟩
      · rw [HP.out]; rfl
      · rw [HP.out]; exact ho6.row
      · rw [HP.out]; exact ho6.cap
      · exact H5.out.2.1.trans (((Below.alloc1 w5 _).then hb6).mono H5.out.2.1.size)
  by_cases k3 : v.k = 3
  · have HC := Lib.hid (Va.clean3 k3)
    have HP : Hid (Key.part (Key.clean v) = [1] ++ (Key.esc v.s ++ [0, 0])) := by show _ = _; rw [HC.out, Key.part_text rfl]; rfl
    simp only [HC.out] at c0 c1 c2 c3
    obtain ⟨cb, Wb, hcvb, hrb, hbb, -, hcb, -⟩ := run_str_bytes2 w3 v.s
    have HEL : Hid ((Key.esc v.s).length ≤ 2000) := Nat.le_trans (Key.esc_length v.s) (by have := HS.out; omega)
    go_wp2_with fail
    clear c0 c1 c2 c3 hlt hcvb
    have h1 : BRow (Wb.alloc (.cells #[.int .u8 0] 5)) (some ⟨Wb.heap.size, 0, none⟩) [0] := BRow.one _ _ _ _ rfl
    have h2 := (hrb.alloc (.cells #[.int .u8 0] 5))
    have hB1 : Below w.heap.size w (Wb.alloc (.cells #[.int .u8 0] 5)) := HB3.out.trans ((hbb.trans ((Below.alloc1 Wb _).mono hbb.size)).mono HB3.out.size)
    have hz1 : (Wb.alloc (.cells #[.int .u8 0] 5)).heap.size = Wb.heap.size + 1 := by simp
    rw [← hz1]
    generalize World.alloc Wb _ = w5 at h1 h2 hB1 hz1 ⊢
    have h3 : BRow (w5.alloc (.cells #[.int .u8 0, .int .u8 255] 5)) (some ⟨w5.heap.size, 0, none⟩) [0, 255] := Row.new w5 ([0, 255].map bv) _
    have H6 := Lib.hid (And.intro (h2.alloc (.cells #[.int .u8 0, .int .u8 255] 5)) (And.intro (h1.alloc (.cells #[.int .u8 0, .int .u8 255] 5)) (And.intro h3 (hB1.trans ((Below.alloc1 w5 (.cells #[.int .u8 0, .int .u8 255] 5)).mono hB1.size)))))
    clear h1 h2 h3 hB1 hrb hbb
    generalize World.alloc w5 _ = w6 at H6 ⊢
    refine (breplaceall_any w6 _ _ _ cb 1 2 v.s H6.out.1 H6.out.2.1 H6.out.2.2.1 (Nat.le_trans HS.out (by decide)) hcb).mono ?_
    rintro e w7 ⟨A7, c7, rfl, ho7, hb7⟩
    have H7 := Lib.hid (And.intro ho7.row (And.intro ho7.cap (H6.out.2.2.2.trans (hb7.mono H6.out.2.2.2.size))))
    clear ho7 hb7 H6
    go_wp2_with fail
    have h1 : BRow (w7.alloc (.cells #[.int .u8 1] 5)) (some ⟨w7.heap.size, 0, none⟩) [1] := BRow.one _ _ _ _ rfl
    have h2 := H7.out.1.alloc (.cells #[.int .u8 1] 5)
    have hB1 : Below w.heap.size w (w7.alloc (.cells #[.int .u8 1] 5)) := H7.out.2.2.trans ((Below.alloc1 w7 _).mono H7.out.2.2.size)
    have hz1 : (w7.alloc (.cells #[.int .u8 1] 5)).heap.size = w7.heap.size + 1 := by simp
    rw [← hz1]
    generalize World.alloc w7 _ = w8 at h1 h2 hB1 hz1 ⊢
    have h3 : BRow (w8.alloc (.cells #[.int .u8 0, .int .u8 0] 5)) (some ⟨w8.heap.size, 0, none⟩) [0, 0] := Row.new w8 ([0, 0].map bv) _
    have hz2 : (w8.alloc (.cells #[.int .u8 0, .int .u8 0] 5)).heap.size = w8.heap.size + 1 := by simp
    have H8 := Lib.hid (And.intro (h1.alloc (.cells #[.int .u8 0, .int .u8 0] 5)) (And.intro (h2.alloc (.cells #[.int .u8 0, .int .u8 0] 5)) (And.intro h3 (hB1.trans ((Below.alloc1 w8 (.cells #[.int .u8 0, .int .u8 0] 5)).mono hB1.size)))))
    clear h1 h2 h3 hB1
    rw [← hz2]
    generalize World.alloc w8 _ = w9 at H8 hz2 ⊢
    refine (bconcat3 _ _ _ ⟨some ⟨w7.heap.size, 0, none⟩, 1, [1]⟩ ⟨A7, c7, Key.esc v.s⟩ ⟨some ⟨w8.heap.size, 0, none⟩, 2, [0, 0]⟩ (Row.new _ _ _) ⟨H8.out.1.alloc _, ?_⟩ ⟨H8.out.2.1.alloc _, ?_⟩ ⟨H8.out.2.2.1.alloc _, ?_⟩ ?_).mono ?_
    · show 1 ≤ _; decide
    · have := HEL.out; show (Key.esc v.s).length ≤ 9223372036854775807; omega
    · show 2 ≤ _; decide
    · have := HEL.out; show 1 + (Key.esc v.s).length + 2 ≤ _; omega
    rintro e w10 ⟨A10, c10, rfl, ho10, hb10⟩
    go_wp2_with fail
    go_ret
    refine ⟨A10, c10, ?_, ?_, ?_, ?_⟩
    · have hl3 : ([1] ++ (Key.esc v.s ++ [0, 0]) : List UInt8).length = (Key.esc v.s).length + 2 + 1 := by simp
      rw [HP.out, hl3]; rfl
    · rw [HP.out]; exact ho10.row
    · rw [HP.out]; exact ho10.cap
    · exact H8.out.2.2.2.trans (((Below.alloc1 w9 _).then hb10).mono H8.out.2.2.2.size)
  by_cases k4 : v.k = 4
  · by_cases hn : v.n = 0
    · have HC : Hid (Key.clean v = ⟨4, 0, 0, []⟩) := by show _ = _; rw [Va.clean4 k4, if_pos hn]
      have HP : Hid (Key.part (Key.clean v) = [1, 0]) := by show _ = _; rw [HC.out, Key.part_bool rfl]; rfl
      simp only [HC.out] at c0 c1 c2 c3
      clear hn
      go_wp2_with fail
      go_ret
      refine ⟨some ⟨w3.heap.size, 0, none⟩, 2, ?_, ?_, ?_, HB3.out.trans ((Below.alloc1 w3 _).mono HB3.out.size)⟩
      · rw [HP.out]; rfl
      · rw [HP.out]; exact Row.new w3 (([1, 0] : List UInt8).map bv) _
      · rw [HP.out]; exact Nat.le_refl _
    · have HC : Hid (Key.clean v = ⟨4, 1, 0, []⟩) := by show _ = _; rw [Va.clean4 k4, if_neg hn]
      have HP : Hid (Key.part (Key.clean v) = [1, 1]) := by show _ = _; rw [HC.out, Key.part_bool rfl]; rfl
      simp only [HC.out] at c0 c1 c2 c3
      clear hn
      go_wp2_with fail
      go_ret
      refine ⟨some ⟨w3.heap.size, 0, none⟩, 2, ?_, ?_, ?_, HB3.out.trans ((Below.alloc1 w3 _).mono HB3.out.size)⟩
      · rw [HP.out]; rfl
      · rw [HP.out]; exact Row.new w3 (([1, 1] : List UInt8).map bv) _
      · rw [HP.out]; exact Nat.le_refl _
  · have HC := Lib.hid (Va.clean0 k1 k2 k3 k4)
    have HP : Hid (Key.part (Key.clean v) = [0]) := by show _ = _; rw [HC.out, Key.part_null rfl]
    simp only [HC.out] at c0 c1 c2 c3
    go_wp2_with fail
    go_ret
    refine ⟨some ⟨w3.heap.size, 0, none⟩, 1, ?_, ?_, ?_, HB3.out.trans ((Below.alloc1 w3 _).mono HB3.out.size)⟩
    · rw [HP.out]; rfl
    · rw [HP.out]; exact Row.new w3 (([0] : List UInt8).map bv) _
    · rw [HP.out]; exact Nat.le_refl _
end Go.Proofs.YtknfnhmkiooifaaDoor
end

section
/-
  The contract of key.Key, and the laws' first lines.
-/
namespace Go.Proofs.YtknfnhmkiooifaaDoor
set_option linter.unusedSimpArgs false
set_option linter.unusedVariables false
open Go.RowKit

/-- Values as a law's walk holds them: few, of short texts. -/
structure Few (L : List Va) : Prop where
  len : L.length ≤ 1000
  ok : ∀ v ∈ L, v.ok
  short : ∀ v ∈ L, v.s.length ≤ 1000
theorem part_len (v : Va) (h : v.s.length ≤ 1000) : (Key.part (Key.clean v)).length ≤ 2003 := by
  have he := Key.esc_length v.s
  by_cases k1 : v.k = 1
  · rw [Va.clean1 k1, Key.part_int rfl]; simp [Key.id_length]
  by_cases k2 : v.k = 2
  · rw [Va.clean2 k2, Key.part_real rfl]; simp [Wal.hi8_length]
  by_cases k3 : v.k = 3
  · rw [Va.clean3 k3, Key.part_text rfl]; simp; omega
  by_cases k4 : v.k = 4
  · rw [Va.clean4 k4, Key.part_bool rfl]; simp
  · rw [Va.clean0 k1 k2 k3 k4, Key.part_null rfl]; simp
theorem key_len (L : List Va) (h : ∀ v ∈ L, v.s.length ≤ 1000) : (Key.key L).length ≤ 2003 * L.length := by
  induction L with
  | nil => simp [Key.key]
  | cons v L ih =>
    have h1 := part_len v (h v (by simp))
    have h2 := ih fun u hu => h u (by simp [hu])
    unfold Key.key at h2 ⊢
    rw [List.flatMap_cons, List.length_append, List.length_cons]
    omega
/-- A value of a row is loaded. -/
theorem wpList_load_va_at {w : World} {ops : Array Oper} {rest : List Oper} {o : Oper} {a : Act} {Q : Exit → Act → World → Prop} (hgd : o.guard = none) (x : Operand) (hop : o.op = .load 27 x) {b off : Nat} {L : List Va} (hr : ERow eVa w (some ⟨b, off, none⟩) L) {j : Nat} (hj : j < L.length) (hx : a.eval x = .pointer (some ⟨b, off + j * 4, none⟩))
    (h : wpList Tryd.prog ops Q rest (a.put o.dst L[j].v) w) : wpList Tryd.prog ops Q (o :: rest) a w :=
  wpList_load_va_row hgd x hop hr hj (fun b' o' e => by
    have e' := Option.some.inj e
    simp only [Addr.mk.injEq, and_true] at e'
    rw [hx, e'.1, e'.2]) h
theorem key_snoc (L : List Va) (k : Nat) (hk : k < L.length) : Key.key (L.take (k + 1)) = Key.key (L.take k) ++ Key.part (Key.clean L[k]) := by
  rw [List.take_succ_eq_append_getElem hk]
  unfold Key.key
  rw [List.flatMap_append]
  simp
set_option maxRecDepth 20000 in
set_option maxHeartbeats 4000000 in
theorem key_any (w : World) (A : Option Addr) (c : Nat) (L : List Va) (hr : ERow eVa w A L) (hL : Few L) : Calls Tryd.prog 13 #[.slice A L.length c] w (RetB w (Key.key L)) := by
  have HR := Lib.hid hr
  have HL := Lib.hid hL
  have hn := hL.len
  clear hr hL
  go_enter Tryd.func13, Tryd.ntmps13
  have hoe : BOwn (w.alloc (.cells #[] 5)) w.heap.size (some ⟨w.heap.size, 0, none⟩) 0 [] := BOwn.new w [] (by simp) (Nat.le_refl _)
  go_wp2_with fail
  have HI : Hid (BOwn (w.alloc (.cells #[] 5)) w.heap.size (some ⟨w.heap.size, 0, none⟩) 0 (Key.key (L.take 0)) ∧ Below w.heap.size w (w.alloc (.cells #[] 5))) := ⟨hoe, Below.alloc1 _ _⟩
  clear hoe
  generalize World.alloc w _ = W at HI ⊢
  go_loopw [3, 9] (fun bv_ iv wr => ∃ (k : Nat) (A1 : Option Addr) (c1 : Nat), k ≤ L.length ∧ bv_ = .slice A1 (Key.key (L.take k)).length c1 ∧ iv = .int .i64 (k : Int) ∧ Hid (BOwn wr w.heap.size A1 c1 (Key.key (L.take k)) ∧ Below w.heap.size w wr)) (fun _ iv _ => L.length - (intOf iv).toNat)
  case atStart => exact ⟨0, _, _, Nat.zero_le _, rfl, rfl, HI.out⟩
  case round =>
    obtain ⟨k, A1, c1, hk, rfl, rfl, HJ⟩ := hrel
    clear HI
    by_cases hlt : k < L.length
    · have hii : (k : Int) < (L.length : Int) := by omega
      obtain ⟨b, o, rfl, hb, -⟩ := HR.out.at_ hlt
      have hok := Lib.hid (HL.out.ok _ (List.getElem_mem hlt))
      have hsh := Lib.hid (HL.out.short _ (List.getElem_mem hlt))
      have HRW := Lib.hid (HR.out.below HJ.out.2)
      have HS := Lib.hid (key_snoc L k hlt)
      have HKL : Hid ((Key.key (L.take k)).length ≤ 2003000) := Nat.le_trans (key_len _ fun v hv => HL.out.short v (List.mem_of_mem_take hv)) (by rw [List.length_take]; omega)
      go_upto_region 5 with (first | (refine wpList_load_va_at rfl (.tmp 11) rfl HRW.out hlt rfl ?_) | (refine wpList_alloc_va rfl rfl ?_; intro W2 hb2 hz2 hB2) | (refine wpList_store_va rfl rfl (.tmp 5) (.tmp 12) rfl wr.heap.size rfl L[k] rfl hb2 ?_; intro W3 hb3 hg3))
      have hB3 : Below wr.heap.size wr W3 := below_of_grown hB2 hg3 (Nat.le_refl _) (by omega)
      have hz3 := hg3.size
      clear hb2 hz2 hB2 hg3
      go_wp2_with (refine wpList_load_va rfl (.tmp 5) rfl wr.heap.size rfl hb3 ?_)
      refine (part_any _ _ hok.out hsh.out).mono ?_
      rintro e W4 ⟨A4, c4, rfl, hr4, hc4, hB4⟩
      have HB : Hid (BOwn W4 w.heap.size A1 c1 (Key.key (L.take k)) ∧ Below w.heap.size w W4) := ⟨(HJ.out.1.below hB3).below hB4, HJ.out.2.trans ((hB3.trans (hB4.mono hB3.size)).mono HJ.out.2.size)⟩
      have H4 := Lib.hid hr4
      have HPL := Lib.hid (part_len L[k] hsh.out)
      clear hr4 hB4 hB3 hb3
      go_wp2_with (at_builtin; refine wpList_append_bytes rfl (.tmp 13) (.tmp 15) rfl _ rfl HB.out.1 rfl _ rfl H4.out rfl (by have := HKL.out; have := HPL.out; omega) HB.out.2.size ?_; intro A5 c5 W5 ho5 hb5 _ _)
      go_roundw
      case rel =>
        refine ⟨k + 1, A5, c5, by omega, ?_, by go_num, ?_⟩
        · rw [HS.out, List.length_append]
        · rw [HS.out]; exact ⟨ho5, HB.out.2.trans hb5⟩
      case measure => simp [intOf]; omega
    · obtain rfl : k = L.length := by omega
      have hlt2 : L.take L.length = L := List.take_length
      rw [hlt2] at HJ ⊢
      clear hlt2
      go_wp2_with fail
      go_ret
      exact ⟨A1, c1, rfl, HJ.out.1, HJ.out.2⟩

theorem key_lives : Key.key [⟨1, 1, 0, []⟩, ⟨0, 0, 0, []⟩, ⟨3, 0, 0, [97]⟩] = [1, 128, 0, 0, 0, 0, 0, 0, 1, 0, 1, 97, 0, 0] := by decide
set_option maxRecDepth 20000 in
set_option maxHeartbeats 4000000 in
theorem klives_any (w : World) : Calls Tryd.prog 9 #[] w fun e w' => e = .returned (.bool true) ∧ Below w.heap.size w w' := by
  have HF : Hid (Few [⟨1, 1, 0, []⟩, ⟨0, 0, 0, []⟩, ⟨3, 0, 0, [97]⟩]) := by
    refine ⟨by decide, ?_, ?_⟩
    · intro v hv
      simp only [List.mem_cons, List.not_mem_nil, or_false] at hv
      rcases hv with rfl | rfl | rfl <;> constructor <;> decide
    · intro v hv
      simp only [List.mem_cons, List.not_mem_nil, or_false] at hv
      rcases hv with rfl | rfl | rfl <;> decide
  have HK := Lib.hid key_lives
  go_enter Tryd.func9, Tryd.ntmps9
  go_wp2_with fail
  generalize hW : World.alloc w _ = W
  obtain ⟨ba, hz, hB⟩ := fresh1 (a := eVa.cells [⟨1, 1, 0, []⟩, ⟨0, 0, 0, []⟩, ⟨3, 0, 0, [97]⟩]) hW
  have hrow := ba.row eVa [⟨1, 1, 0, []⟩, ⟨0, 0, 0, []⟩, ⟨3, 0, 0, [97]⟩] rfl (by decide)
  clear hW ba
  refine (key_any W _ 3 [⟨1, 1, 0, []⟩, ⟨0, 0, 0, []⟩, ⟨3, 0, 0, [97]⟩] hrow HF.out).mono ?_
  rintro e w1 ⟨A1, c1, rfl, ho, hb⟩
  rw [HK.out] at ho ⊢
  have hsb : (convert 30 9 (.slice A1 14 c1)).run Tryd.prog w1 = .ok (.string ⟨#[1, 128, 0, 0, 0, 0, 0, 0, 1, 0, 1, 97, 0, 0]⟩) w1 := run_string_bytes w1 c1 ho.row
  have hB2 := Lib.hid (hB.trans (hb.mono hB.size))
  clear hrow ho hb hB hz
  go_wp2_with fail
  go_ret
  exact ⟨rfl, hB2.out⟩
end Go.Proofs.YtknfnhmkiooifaaDoor
end

section
/-
  The walk of dowserlaw08.KeyIDs: whatever the numbers and the bytes, it answers true.
-/
namespace Go.Proofs.YtknfnhmkiooifaaDoor
set_option linter.unusedSimpArgs false
set_option linter.unusedVariables false
open Go.RowKit

theorem txt_list (l : List UInt8) : (ByteArray.mk l.toArray).toList = l := by rw [Lib.toList_data]
theorem run_str_ne (l m : List UInt8) (w : World) : (binOp .neq 9 (txt l) (txt m)).run Tryd.prog w = .ok (.bool (!(l == m))) w := by
  unfold txt
  rw [binOp_string_neq, txt_list, txt_list]
  rfl
theorem run_str_eq (l m : List UInt8) (w : World) : (binOp .eql 9 (txt l) (txt m)).run Tryd.prog w = .ok (.bool (l == m)) w := by
  unfold txt
  rw [binOp_string_eql, txt_list, txt_list]
  rfl
theorem run_str_lt (l m : List UInt8) (w : World) : (binOp .lss 9 (txt l) (txt m)).run Tryd.prog w = .ok (.bool (Op.bytesLess l m)) w := by
  unfold txt
  rw [binOp_string_lss, txt_list, txt_list]
  rfl
theorem eqg_ne (t : TypeId) (x y : Operand) (l m : List UInt8) : eqGuard .neq t x y (txt l) (txt m) = pure () := rfl
theorem eqg_eq (t : TypeId) (x y : Operand) (l m : List UInt8) : eqGuard .eql t x y (txt l) (txt m) = pure () := rfl
theorem kreadid_id (w : World) (A : Option Addr) (c : Nat) (n : Int) (h1 : -9223372036854775808 ≤ n) (h2 : n ≤ 9223372036854775807) (hr : BRow w A (Key.id n)) (hc : 8 ≤ c) :
    Calls Tryd.prog 15 #[.slice A 8 c] w fun e w' => w' = w ∧ e = .returned (.tuple #[.int .i64 n, .int .i64 0]) := by
  have K := kreadid_any w A c (Key.id n) hr (by rw [Key.id_length]; exact hc) (by rw [Key.id_length]; decide)
  have hx := xor_id h1 h2
  rw [IntWalk.i64_left] at hx
  rw [Key.id_length, if_neg (by decide), if_neg (by decide), Key.lo_id h1 h2, hx] at K
  exact K
theorem id_of (l : List UInt8) (h : l.length = 8) : ∃ n : Int, -9223372036854775808 ≤ n ∧ n ≤ 9223372036854775807 ∧ l = Key.id n := by
  have hl := Wal.lo8_lt l h
  refine ⟨(Wal.lo l : Int) - 9223372036854775808, by omega, by omega, ?_⟩
  unfold Key.id Key.idn Wal.hi8
  rw [show (((Wal.lo l : Int) - 9223372036854775808) + 9223372036854775808).toNat = Wal.lo l from by omega]
  have := Wal.hiR_lo l
  rw [h] at this
  exact this.symm
set_option maxRecDepth 20000 in
set_option maxHeartbeats 4000000 in
theorem keyIDs_walk (w : World) (a : Int) (wa : (Lit.int .i64 a).wf = true) (b : Int) (wb : (Lit.int .i64 b).wf = true) (A : Option Addr) (c : Nat) (l : List UInt8) (br : BRow w A l) (lc : l.length ≤ c) (cm : c ≤ maxLen) :
    Calls Tryd.prog 4 #[.int .i64 a, .int .i64 b, .slice A l.length c] w fun e w' => e = .returned (.bool true) ∧ Below w.heap.size w w' := by
  simp [Lit.wf, IntKind.min, IntKind.max, IntKind.signed, IntKind.bits] at wa wb
  have HR := Lib.hid br
  have HA := Lib.hid wa
  have HB := Lib.hid wb
  have hl0 : l.length ≤ 9223372036854775807 := Nat.le_trans lc cm
  have HLC := Lib.hid lc
  clear br wa wb lc cm
  go_enter Tryd.func4, Tryd.ntmps4
  go_wp2_with fail
  refine (klives_any _).mono ?_
  rintro e w1 ⟨rfl, hb1⟩
  have H1 := Lib.hid hb1
  clear hb1
  by_cases hg : 100 < l.length
  · have hi : (100 : Int) < (l.length : Int) := by omega
    clear hg
    go_wp2_with fail
    refine (klives_any _).mono ?_
    rintro e w2 ⟨rfl, hb2⟩
    go_wp2_with fail
    go_ret
    exact ⟨rfl, H1.out.then hb2⟩
  have hi : ¬ (100 : Int) < (l.length : Int) := by omega
  have hlm : l.length ≤ 100 := by omega
  clear hg hl0
  have hn8 := Lib.hid (Key.id_length a)
  have hnb := Lib.hid (Key.id_length b)
  go_wp2_with fail
  refine (kid_any _ a HA.out.1 HA.out.2).mono ?_
  rintro e w2 ⟨A2, c2, rfl, hr2, hc2, hb2⟩
  rw [hn8.out] at hc2 ⊢
  have H2 := Lib.hid (And.intro hr2 (H1.out.then hb2))
  clear hr2 hb2
  go_wp2_with fail
  refine (kid_any _ b HB.out.1 HB.out.2).mono ?_
  rintro e w3 ⟨A3, c3, rfl, hr3, hc3, hb3⟩
  rw [hnb.out] at hc3 ⊢
  have H3 := Lib.hid (And.intro hr3 (And.intro (H2.out.1.below hb3) (H2.out.2.then hb3)))
  clear hr3 hb3 H2
  go_wp2_with fail
  refine (kreadid_id _ A2 c2 a HA.out.1 HA.out.2 H3.out.2.1 hc2).mono ?_
  rintro e wq ⟨hq, rfl⟩
  rw [hq]
  clear hq wq
  go_upto_region 5 with fail
  have HX : Hid (Op.bytesLess (Key.id a) (Key.id b) = decide (a < b)) := Key.id_less HA.out.1 HA.out.2 HB.out.1 HB.out.2
  have kne := run_str_ne
  have gne := eqg_ne
  have klt := run_str_lt
  have hsa : ∀ c', (convert 30 9 (.slice A2 8 c')).run Tryd.prog w3 = .ok (txt (Key.id a)) w3 := fun c' => by have := run_string_bytes w3 c' H3.out.2.1; rw [hn8.out] at this; exact this
  have hsd : ∀ c', (convert 30 9 (.slice A2 8 c')).run Tryd.prog w3.drew = .ok (txt (Key.id a)) w3.drew := fun c' => by have := run_string_bytes w3.drew c' H3.out.2.1.drew; rw [hn8.out] at this; exact this
  refine wp_region_plan (.take 0 (.take 1 (.take 2 (.run 3 [0, 1] (.take 4 (.take 5 (.take 6 (.take 7 (.take 8 (.take 9 (.take 10 (.take 11 (.take 12 (.take 13 (.take 14 (.take 15 (.take 16 (.take 17 (.take 18 (.take 19 (.take 20 (.take 21 (.take 22 (.take 23 (.take 24 (.take 25 (.take 26 (.take 27 (.take 28 (.take 29 .fin)))))))))))))))))))))))))))))) (by kernel_rfl) (by kernel_rfl) (by kernel_rfl) (by kernel_rfl) ?_
  repeat' (first | (refine hZ _ _ ?_; clear hZ) | (refine hZ _ ?_; clear hZ) | (refine hZ ?_; clear hZ) | rw [again_nil] | rw [walk_fin] | ((first | rw [walk_take] | rw [walk_run] | rw [again_cons]); intro Z hZ; simp only [sel, List.getElem?_toArray, List.getElem?_cons_zero, List.getElem?_cons_succ]; go_wp2_with (fail)))
  refine (refid_any _ a HA.out.1 HA.out.2).mono ?_
  rintro e w4 ⟨rfl, hb4⟩
  have h34 : Below w3.heap.size w3 w4 := (Below.refl _ _).drewR.then hb4
  have H4 := Lib.hid (And.intro (H3.out.1.below h34) (And.intro (H3.out.2.1.below h34) (H3.out.2.2.then h34)))
  have hs4 : ∀ c', (convert 30 9 (.slice A2 8 c')).run Tryd.prog w4 = .ok (txt (Key.id a)) w4 := fun c' => by have := run_string_bytes w4 c' H4.out.2.1; rw [hn8.out] at this; exact this
  have hs5 : ∀ c', (convert 30 9 (.slice A3 8 c')).run Tryd.prog w4 = .ok (txt (Key.id b)) w4 := fun c' => by have := run_string_bytes w4 c' H4.out.1; rw [hnb.out] at this; exact this
  have haa : (Key.id a == Key.id a) = true := by simp
  clear hsa hsd hb4 h34 H3
  have hx := HX.out
  by_cases hab : a < b
  · have hx1 : Op.bytesLess (Key.id a) (Key.id b) = true := by rw [hx]; simp [hab]
    have hdd : decide (a < b) = true := by simp [hab]
    clear hx
    go_wp2_with fail
    repeat' (first | (refine hZ _ _ ?_; clear hZ) | (refine hZ _ ?_; clear hZ) | (refine hZ ?_; clear hZ) | rw [again_nil] | rw [walk_fin] | ((first | rw [walk_take] | rw [walk_run] | rw [again_cons]); intro Z hZ; simp only [sel, List.getElem?_toArray, List.getElem?_cons_zero, List.getElem?_cons_succ]; go_wp2_with (fail)))
    clear hs4 hs5 haa hx1 hab hdd kne klt gne
    by_cases h8 : l.length < 8
    · have K := kreadid_any w4 A c l (HR.out.below H4.out.2.2) HLC.out (Nat.le_trans hlm (by decide))
      rw [if_pos h8] at K
      have HK := Lib.hid K
      have h8i : (l.length : Int) < 8 := by omega
      clear K h8
      go_wp2_with fail
      refine HK.out.mono ?_
      rintro e wq ⟨hq, rfl⟩
      rw [hq]
      clear hq wq HK
      go_wp2_with fail
      go_ret
      exact ⟨rfl, H4.out.2.2⟩
    have h8i : ¬ (l.length : Int) < 8 := by omega
    by_cases h9 : 8 < l.length
    · have K := kreadid_any w4 A c l (HR.out.below H4.out.2.2) HLC.out (Nat.le_trans hlm (by decide))
      rw [if_neg h8, if_pos h9] at K
      have HK := Lib.hid K
      have h9i : (8 : Int) < (l.length : Int) := by omega
      clear K h8 h9
      go_wp2_with fail
      refine HK.out.mono ?_
      rintro e wq ⟨hq, rfl⟩
      rw [hq]
      clear hq wq HK
      go_wp2_with fail
      go_ret
      exact ⟨rfl, H4.out.2.2⟩
    have h8e : l.length = 8 := by omega
    obtain ⟨n, n1, n2, rfl⟩ := id_of l h8e
    have HN := Lib.hid (And.intro n1 n2)
    have HE := Lib.hid h8e
    have HC8 : Hid (8 ≤ c) := by have := HLC.out; rw [h8e] at this; exact this
    rw [h8e]
    clear h8 h8i h9 h8e hlm n1 n2 HLC
    go_wp2_with fail
    refine (kreadid_id _ A c n HN.out.1 HN.out.2 (HR.out.below H4.out.2.2) HC8.out).mono ?_
    rintro e wq ⟨hq, rfl⟩
    rw [hq]
    clear hq wq
    go_upto_region 12 with fail
    have keq := run_str_eq
    have geq := eqg_eq
    have hsd : ∀ c', (convert 30 9 (.slice A 8 c')).run Tryd.prog w4.drew = .ok (txt (Key.id n)) w4.drew := fun c' => by have := run_string_bytes w4.drew c' (HR.out.below H4.out.2.2).drew; rw [HE.out] at this; exact this
    refine wp_region_plan (.take 0 (.take 1 (.take 2 (.take 3 (.take 6 (.take 7 (.run 4 [6, 7] (.take 5 (.take 8 (.take 9 (.take 10 .fin))))))))))) (by kernel_rfl) (by kernel_rfl) (by kernel_rfl) (by kernel_rfl) ?_
    repeat' (first | (refine hZ _ _ ?_; clear hZ) | (refine hZ _ ?_; clear hZ) | (refine hZ ?_; clear hZ) | rw [again_nil] | rw [walk_fin] | ((first | rw [walk_take] | rw [walk_run] | rw [again_cons]); intro Z hZ; simp only [sel, List.getElem?_toArray, List.getElem?_cons_zero, List.getElem?_cons_succ]; go_wp2_with (fail)))
    refine (kid_any _ n HN.out.1 HN.out.2).mono ?_
    rintro e w5 ⟨A5, c5, rfl, hr5, hc5, hb5⟩
    have hb6 := H4.out.2.2.then ((Below.refl _ _).drewR.then hb5)
    have h1 : ∀ c', (convert 30 9 (.slice A 8 c')).run Tryd.prog w5 = .ok (txt (Key.id n)) w5 := fun c' => by have := run_string_bytes w5 c' (HR.out.below hb6); rw [HE.out] at this; exact this
    have h2 : ∀ c', (convert 30 9 (.slice A5 8 c')).run Tryd.prog w5 = .ok (txt (Key.id n)) w5 := fun c' => by have := run_string_bytes w5 c' hr5; rw [HE.out] at this; exact this
    rw [HE.out]
    have HB6 := Lib.hid hb6
    have hnn : (Key.id n == Key.id n) = true := by simp
    clear hsd hr5 hb5 hb6 hc5
    go_wp2_with fail
    repeat' (first | (refine hZ _ _ ?_; clear hZ) | (refine hZ _ ?_; clear hZ) | (refine hZ ?_; clear hZ) | rw [again_nil] | rw [walk_fin] | ((first | rw [walk_take] | rw [walk_run] | rw [again_cons]); intro Z hZ; simp only [sel, List.getElem?_toArray, List.getElem?_cons_zero, List.getElem?_cons_succ]; go_wp2_with (fail)))
    clear h1 h2 hnn keq geq
    go_wp2_with fail
    go_ret
    exact ⟨rfl, HB6.out⟩
  · have hx1 : Op.bytesLess (Key.id a) (Key.id b) = false := by rw [hx]; simp [hab]
    have hdd : decide (a < b) = false := by simp [hab]
    clear hx hab
    go_wp2_with fail
    repeat' (first | (refine hZ _ _ ?_; clear hZ) | (refine hZ _ ?_; clear hZ) | (refine hZ ?_; clear hZ) | rw [again_nil] | rw [walk_fin] | ((first | rw [walk_take] | rw [walk_run] | rw [again_cons]); intro Z hZ; simp only [sel, List.getElem?_toArray, List.getElem?_cons_zero, List.getElem?_cons_succ]; go_wp2_with (fail)))
    clear hs4 hs5 haa hx1 hdd kne klt gne
    by_cases h8 : l.length < 8
    · have K := kreadid_any w4 A c l (HR.out.below H4.out.2.2) HLC.out (Nat.le_trans hlm (by decide))
      rw [if_pos h8] at K
      have HK := Lib.hid K
      have h8i : (l.length : Int) < 8 := by omega
      clear K h8
      go_wp2_with fail
      refine HK.out.mono ?_
      rintro e wq ⟨hq, rfl⟩
      rw [hq]
      clear hq wq HK
      go_wp2_with fail
      go_ret
      exact ⟨rfl, H4.out.2.2⟩
    have h8i : ¬ (l.length : Int) < 8 := by omega
    by_cases h9 : 8 < l.length
    · have K := kreadid_any w4 A c l (HR.out.below H4.out.2.2) HLC.out (Nat.le_trans hlm (by decide))
      rw [if_neg h8, if_pos h9] at K
      have HK := Lib.hid K
      have h9i : (8 : Int) < (l.length : Int) := by omega
      clear K h8 h9
      go_wp2_with fail
      refine HK.out.mono ?_
      rintro e wq ⟨hq, rfl⟩
      rw [hq]
      clear hq wq HK
      go_wp2_with fail
      go_ret
      exact ⟨rfl, H4.out.2.2⟩
    have h8e : l.length = 8 := by omega
    obtain ⟨n, n1, n2, rfl⟩ := id_of l h8e
    have HN := Lib.hid (And.intro n1 n2)
    have HE := Lib.hid h8e
    have HC8 : Hid (8 ≤ c) := by have := HLC.out; rw [h8e] at this; exact this
    rw [h8e]
    clear h8 h8i h9 h8e hlm n1 n2 HLC
    go_wp2_with fail
    refine (kreadid_id _ A c n HN.out.1 HN.out.2 (HR.out.below H4.out.2.2) HC8.out).mono ?_
    rintro e wq ⟨hq, rfl⟩
    rw [hq]
    clear hq wq
    go_upto_region 12 with fail
    have keq := run_str_eq
    have geq := eqg_eq
    have hsd : ∀ c', (convert 30 9 (.slice A 8 c')).run Tryd.prog w4.drew = .ok (txt (Key.id n)) w4.drew := fun c' => by have := run_string_bytes w4.drew c' (HR.out.below H4.out.2.2).drew; rw [HE.out] at this; exact this
    refine wp_region_plan (.take 0 (.take 1 (.take 2 (.take 3 (.take 6 (.take 7 (.run 4 [6, 7] (.take 5 (.take 8 (.take 9 (.take 10 .fin))))))))))) (by kernel_rfl) (by kernel_rfl) (by kernel_rfl) (by kernel_rfl) ?_
    repeat' (first | (refine hZ _ _ ?_; clear hZ) | (refine hZ _ ?_; clear hZ) | (refine hZ ?_; clear hZ) | rw [again_nil] | rw [walk_fin] | ((first | rw [walk_take] | rw [walk_run] | rw [again_cons]); intro Z hZ; simp only [sel, List.getElem?_toArray, List.getElem?_cons_zero, List.getElem?_cons_succ]; go_wp2_with (fail)))
    refine (kid_any _ n HN.out.1 HN.out.2).mono ?_
    rintro e w5 ⟨A5, c5, rfl, hr5, hc5, hb5⟩
    have hb6 := H4.out.2.2.then ((Below.refl _ _).drewR.then hb5)
    have h1 : ∀ c', (convert 30 9 (.slice A 8 c')).run Tryd.prog w5 = .ok (txt (Key.id n)) w5 := fun c' => by have := run_string_bytes w5 c' (HR.out.below hb6); rw [HE.out] at this; exact this
    have h2 : ∀ c', (convert 30 9 (.slice A5 8 c')).run Tryd.prog w5 = .ok (txt (Key.id n)) w5 := fun c' => by have := run_string_bytes w5 c' hr5; rw [HE.out] at this; exact this
    rw [HE.out]
    have HB6 := Lib.hid hb6
    have hnn : (Key.id n == Key.id n) = true := by simp
    clear hsd hr5 hb5 hb6 hc5
    go_wp2_with fail
    repeat' (first | (refine hZ _ _ ?_; clear hZ) | (refine hZ _ ?_; clear hZ) | (refine hZ ?_; clear hZ) | rw [again_nil] | rw [walk_fin] | ((first | rw [walk_take] | rw [walk_run] | rw [again_cons]); intro Z hZ; simp only [sel, List.getElem?_toArray, List.getElem?_cons_zero, List.getElem?_cons_succ]; go_wp2_with (fail)))
    clear h1 h2 hnn keq geq
    go_wp2_with fail
    go_ret
    exact ⟨rfl, HB6.out⟩
end Go.Proofs.YtknfnhmkiooifaaDoor
end

section
/-
  The contracts of key.After and of the document's After.
-/
namespace Go.Proofs.YtknfnhmkiooifaaDoor
set_option linter.unusedSimpArgs false
set_option linter.unusedVariables false
open Go.RowKit

/-- What After answers. -/
def AftB (w : World) (l : List UInt8) (e : Ending) (w' : World) : Prop :=
  ∃ r, Key.IsAfter l r ∧ Below w.heap.size w w' ∧ ((r = none ∧ e = .returned (.tuple #[.slice none 0 0, .bool false])) ∨ ∃ a A c, r = some a ∧ e = .returned (.tuple #[.slice A a.length c, .bool true]) ∧ BRow w' A a ∧ a.length ≤ c)
def AftS (w : World) (l : List UInt8) (e : Ending) (w' : World) : Prop :=
  ∃ r, Key.IsAfter l r ∧ Below w.heap.size w w' ∧ ((r = none ∧ e = .returned (.tuple #[txt [], .bool false])) ∨ ∃ a, r = some a ∧ e = .returned (.tuple #[txt a, .bool true]))
def slcLen : Value → Nat
  | .slice _ n _ => n
  | _ => 0
theorem after_hit {l : List UInt8} {m : Nat} (hm : m < l.length) (hx : l[m] < 255) (ht : ∀ d ∈ l.drop (m + 1), d = 255) : Key.IsAfter l (some (l.take m ++ [l[m] + 1])) :=
  .inr ⟨l.take m, l[m], l.drop (m + 1), by rw [List.getElem_cons_drop, List.take_append_drop], hx, ht, rfl⟩
theorem after_step {l : List UInt8} {m : Nat} (hm : m < l.length) (hx : ¬ l[m] < 255) (ht : ∀ d ∈ l.drop (m + 1), d = 255) : ∀ d ∈ l.drop m, d = 255 := by
  intro d hd
  rw [← List.getElem_cons_drop hm] at hd
  rcases List.mem_cons.1 hd with rfl | hd
  · have := l[m].toNat_lt
    rw [UInt8.lt_iff_toNat_lt] at hx
    have e0 : (255 : UInt8).toNat = 255 := rfl
    exact UInt8.toNat_inj.1 (by omega)
  · exact ht d hd
theorem after_none {l : List UInt8} (h : ∀ d ∈ l.drop 0, d = 255) : Key.IsAfter l none := .inl ⟨rfl, by simpa using h⟩
theorem take_set {l : List UInt8} {m : Nat} (hm : m < l.length) (x : UInt8) : (l.set m x).take (m + 1) = l.take m ++ [x] := by
  rw [List.take_succ_eq_append_getElem (by simpa using hm), List.take_set_of_le (Nat.le_refl _)]
  simp
theorem add_one_u8 {x : UInt8} (h : x < 255) : bv (x + 1) = .int .u8 ((x.toNat : Int) + 1) := by
  rw [UInt8.lt_iff_toNat_lt] at h
  have e0 : (255 : UInt8).toNat = 255 := rfl
  unfold bv
  rw [UInt8.toNat_add]
  have e1 : (1 : UInt8).toNat = 1 := rfl
  rw [e1, Nat.mod_eq_of_lt (by omega)]
  rfl
set_option maxRecDepth 20000 in
set_option maxHeartbeats 2000000 in
theorem kafter_any (w : World) (A : Option Addr) (c : Nat) (l : List UInt8) (hr : BRow w A l) (hl : l.length ≤ 1000000) : Calls Tryd.prog 17 #[.slice A l.length c] w (AftB w l) := by
  have HR := Lib.hid hr
  clear hr
  go_enter Tryd.func17, Tryd.ntmps17
  go_wp2_with fail
  refine (clone_any _ A c l HR.out hl).mono ?_
  rintro e w1 ⟨A1, c1, rfl, ho, hb⟩
  have HO := Lib.hid (And.intro ho hb)
  have hcap := ho.cap
  clear ho hb
  go_wp2_with fail
  go_loop [4] (fun ov => ∃ k : Nat, k ≤ l.length ∧ ov = .slice A1 k c1 ∧ Hid (∀ d ∈ l.drop k, d = 255)) (fun ov => slcLen ov)
  case atStart => exact ⟨l.length, Nat.le_refl _, rfl, by show ∀ _, _; simp⟩
  case round =>
    obtain ⟨k, hk, rfl, HK⟩ := hrel
    by_cases h0 : 0 < k
    · obtain ⟨m, rfl⟩ : ∃ m, k = m + 1 := ⟨k - 1, by omega⟩
      have hm : m < l.length := by omega
      have hi : (0 : Int) < ((m + 1 : Nat) : Int) := by omega
      rcases HO.out.1.form with ⟨_, _, rfl⟩ | ⟨g, rfl, hBg, hg, hlc, _⟩
      · simp at hm
      · have hc0 := HO.out.1.cell (j := m) hm
        have hf0 := HO.out.1.free m
        have hx := l[m].toNat_lt
        have HS := Lib.hid (after_step hm)
        have HH := Lib.hid (after_hit hm)
        have HT := Lib.hid (take_set hm (l[m] + 1))
        have HST := Lib.hid (fun (v : Value) (hv : bv (l[m] + 1) = v) => HO.out.1.store m (l[m] + 1) v hv)
        by_cases h5 : l[m] < 255
        · have HV := Lib.hid (add_one_u8 h5)
          have H5 := Lib.hid h5
          have h5i : (l[m].toNat : Int) < 255 := by rw [UInt8.lt_iff_toNat_lt] at h5; have e0 : (255 : UInt8).toNat = 255 := rfl; omega
          clear h5
          generalize l[m].toNat = x at hc0 hx h5i HV
          go_wp2_with fail
          go_ret2
          have hln : (l.take m ++ [l[m] + 1]).length = m + 1 := by simp; omega
          refine ⟨some (l.take m ++ [l[m] + 1]), HH.out H5.out HK.out, HO.out.2.setCell (p := ⟨g, m, none⟩) hBg _, .inr ⟨_, some ⟨g, 0, none⟩, c1, rfl, ?_, ?_, ?_⟩⟩
          · rw [hln]; rfl
          · rw [← HT.out]; exact (HST.out _ HV.out).row.take (m + 1)
          · rw [hln]; omega
        · have H5 := Lib.hid h5
          have h5i : ¬ (l[m].toNat : Int) < 255 := by rw [UInt8.lt_iff_toNat_lt] at h5; have e0 : (255 : UInt8).toNat = 255 := rfl; omega
          clear h5
          generalize l[m].toNat = x at hc0 hx h5i
          go_wp2_with fail
          go_round
          case rel => exact ⟨m, by omega, by go_num, HS.out H5.out HK.out⟩
          case measure => simp [slcLen]
    · obtain rfl : k = 0 := by omega
      go_wp2_with fail
      go_ret2
      exact ⟨none, after_none HK.out, HO.out.2, .inl ⟨rfl, rfl⟩⟩
set_option maxRecDepth 20000 in
set_option maxHeartbeats 2000000 in
theorem refafter_any (w : World) (l : List UInt8) (hl : l.length ≤ 1000000) : Calls Tryd.prog 18 #[txt l] w (AftS w l) := by
  have hsz : (ByteArray.mk l.toArray).size = l.length := by simp [ByteArray.size]
  go_enter Tryd.func18, Tryd.ntmps18
  unfold txt
  go_wp2_with fail
  go_loopw [4] (fun iv wr => ∃ k : Nat, k ≤ l.length ∧ iv = .int .i64 ((k : Int) - 1) ∧ Hid ((∀ d ∈ l.drop k, d = 255) ∧ wr = w)) (fun iv _ => (intOf iv + 1).toNat)
  case atStart => exact ⟨l.length, Nat.le_refl _, rfl, by show _ ∧ _; simp⟩
  case round =>
    obtain ⟨k, hk, rfl, HK⟩ := hrel
    obtain rfl : wr = w := HK.out.2
    by_cases h0 : 0 < k
    · obtain ⟨m, rfl⟩ : ∃ m, k = m + 1 := ⟨k - 1, by omega⟩
      have hm : m < l.length := by omega
      have hmi : (((m + 1 : Nat) : Int) - 1) = (m : Int) := by omega
      rw [hmi]
      have hget : (ByteArray.mk l.toArray).data[m]? = some l[m] := by simp [hm]
      have hx := l[m].toNat_lt
      have hi2 : m < (ByteArray.mk l.toArray).size := by rw [hsz]; exact hm
      have hb : (ByteArray.mk l.toArray)[m]'hi2 = l[m] := by rfl
      have HS := Lib.hid (after_step hm)
      have HH := Lib.hid (after_hit hm)
      clear hmi
      by_cases h5 : l[m] < 255
      · have HV := Lib.hid (add_one_u8 h5)
        have H5 := Lib.hid h5
        have h5i : (l[m].toNat : Int) < 255 := by rw [UInt8.lt_iff_toNat_lt] at h5; have e0 : (255 : UInt8).toNat = 255 := rfl; omega
        clear h5
        have hrow : BRow (wr.alloc (.cells #[.int .u8 ((l[m].toNat : Int) + 1)] 5)).drew (some ⟨wr.heap.size, 0, none⟩) [l[m] + 1] := (BRow.one _ _ _ _ HV.out).drew
        have hsb : (convert 30 9 (.slice (some ⟨wr.heap.size, 0, none⟩) 1 1)).run Tryd.prog (wr.alloc (.cells #[.int .u8 ((l[m].toNat : Int) + 1)] 5)).drew = .ok (.string ⟨#[l[m] + 1]⟩) (wr.alloc (.cells #[.int .u8 ((l[m].toNat : Int) + 1)] 5)).drew := run_string_bytes _ 1 hrow
        have hcut := cut_head l m
        have hj : ByteArray.mk (l.take m).toArray ++ ByteArray.mk #[l[m] + 1] = ⟨(l.take m ++ [l[m] + 1]).toArray⟩ := cut_join (l.take m) [l[m] + 1]
        have hs1 : (ByteArray.mk (l.take m).toArray).size = m := by simp [ByteArray.size]; omega
        have hs2 : (ByteArray.mk #[l[m] + 1]).size = 1 := rfl
        go_upto_region 5 with fail
        refine wp_region_plan (.take 0 (.take 1 (.take 2 (.take 3 (.take 4 (.take 5 (.take 6 (.run 7 [0, 1, 2] (.take 8 (.take 9 (.take 10 (.take 11 .fin)))))))))))) (by kernel_rfl) (by kernel_rfl) (by kernel_rfl) (by kernel_rfl) ?_
        repeat' (first | (refine hZ _ _ ?_; clear hZ) | (refine hZ _ ?_; clear hZ) | (refine hZ ?_; clear hZ) | rw [again_nil] | rw [walk_fin] | ((first | rw [walk_take] | rw [walk_run] | rw [again_cons]); intro Z hZ; simp only [sel, List.getElem?_toArray, List.getElem?_cons_zero, List.getElem?_cons_succ]; go_wp2_with (fail)))
        clear hsb hcut hj hs1 hs2 hget
        go_wp2_with fail
        go_ret2
        exact ⟨_, HH.out H5.out HK.out.1, (Below.alloc1 _ _).drewR, .inr ⟨_, rfl, rfl⟩⟩
      · have H5 := Lib.hid h5
        have h5i : ¬ (l[m].toNat : Int) < 255 := by rw [UInt8.lt_iff_toNat_lt] at h5; have e0 : (255 : UInt8).toNat = 255 := rfl; omega
        clear h5
        go_wp2_with fail
        go_roundw
        case rel => exact ⟨m, by omega, by go_num, HS.out H5.out HK.out.1, trivial⟩
        case measure => simp [intOf]
    · obtain rfl : k = 0 := by omega
      go_wp2_with fail
      go_ret2
      exact ⟨none, after_none HK.out.1, Below.refl _ _, .inl ⟨rfl, rfl⟩⟩
end Go.Proofs.YtknfnhmkiooifaaDoor
end

section
/-
  The walk of dowserlaw08.KeyAfter: whatever the bytes, it answers true.
-/
namespace Go.Proofs.YtknfnhmkiooifaaDoor
set_option linter.unusedSimpArgs false
set_option linter.unusedVariables false
open Go.RowKit

theorem begins_eq (b t : List UInt8) (h : b.length ≤ t.length) : (t.take b.length == b) = decide (t.take b.length = b) := by
  by_cases e : t.take b.length = b <;> simp [e]
/-- What the law asks, once After answered. -/
theorem after_ask {b t : List UInt8} {r : Option (List UInt8)} (h : Key.IsAfter b r) : (r = none → (Op.bytesLess t b || decide (b.length ≤ t.length) && (t.take b.length == b)) = true) ∧
    (∀ a, r = some a → Op.bytesLess t a = (Op.bytesLess t b || decide (b.length ≤ t.length) && (t.take b.length == b))) := by
  have hf := Key.after_fact h t
  constructor
  · rintro rfl
    have := hf.1 (by intro a e; cases e)
    rcases this with h1 | ⟨h1, h2⟩
    · simp [h1]
    · simp [h1, h2]
  · rintro a rfl
    cases hx : Op.bytesLess t a with
    | true =>
      rcases hf.1 (by rintro c e; cases e; exact hx) with h1 | ⟨h1, h2⟩
      · simp [h1]
      · simp [h1, h2]
    | false =>
      have hn : ¬ (Op.bytesLess t b = true ∨ (b.length ≤ t.length ∧ t.take b.length = b)) := fun h' => by
        have := hf.2 h' a rfl
        rw [hx] at this; cases this
      have n1 : Op.bytesLess t b = false := by cases hb : Op.bytesLess t b with
        | true => exact absurd (.inl hb) hn
        | false => rfl
      rw [n1]
      by_cases hl : b.length ≤ t.length
      · have : ¬ t.take b.length = b := fun e => hn (.inr ⟨hl, e⟩)
        simp [hl, this]
      · simp [hl]
set_option maxRecDepth 20000 in
set_option maxHeartbeats 4000000 in
theorem keyAfter_walk (w : World) (A : Option Addr) (c : Nat) (l : List UInt8) (br : BRow w A l) (lc : l.length ≤ c) (cm : c ≤ maxLen) (B : Option Addr) (d : Nat) (t : List UInt8) (bt : BRow w B t) (ld : t.length ≤ d) (dm : d ≤ maxLen) :
    Calls Tryd.prog 5 #[.slice A l.length c, .slice B t.length d] w fun e w' => e = .returned (.bool true) ∧ Below w.heap.size w w' := by
  have HR := Lib.hid br
  have HT := Lib.hid bt
  have hl0 : l.length ≤ 9223372036854775807 := Nat.le_trans lc cm
  have ht0 : t.length ≤ 9223372036854775807 := Nat.le_trans ld dm
  have HLC := Lib.hid lc
  have HLD := Lib.hid ld
  clear br bt lc cm ld dm
  go_enter Tryd.func5, Tryd.ntmps5
  go_wp2_with fail
  refine (klives_any _).mono ?_
  rintro e w1 ⟨rfl, hb1⟩
  have H1 := Lib.hid hb1
  clear hb1
  by_cases hg : 300 < l.length
  · have hi : (300 : Int) < (l.length : Int) := by omega
    clear hg
    go_wp2_with fail
    refine (klives_any _).mono ?_
    rintro e w2 ⟨rfl, hb2⟩
    go_wp2_with fail
    go_ret
    exact ⟨rfl, H1.out.then hb2⟩
  have hi : ¬ (300 : Int) < (l.length : Int) := by omega
  have hlm : l.length ≤ 300 := by omega
  clear hg hl0
  by_cases hg : 600 < t.length
  · have hi2 : (600 : Int) < (t.length : Int) := by omega
    clear hg
    go_wp2_with fail
    refine (klives_any _).mono ?_
    rintro e w2 ⟨rfl, hb2⟩
    go_wp2_with fail
    go_ret
    exact ⟨rfl, H1.out.then hb2⟩
  have hi2 : ¬ (600 : Int) < (t.length : Int) := by omega
  have htm : t.length ≤ 600 := by omega
  clear hg ht0
  have hoe : BOwn (w1.alloc (.cells #[] 5)) w1.heap.size (some ⟨w1.heap.size, 0, none⟩) 0 [] := BOwn.new w1 [] (by simp) (Nat.le_refl _)
  have HR1 := Lib.hid ((HR.out.below H1.out).alloc (.cells #[] 5))
  go_wp2_with (at_builtin; refine wpList_append_bytes rfl (.tmp 24) (.tmp 25) rfl _ rfl hoe rfl _ rfl HR1.out rfl (by simp; omega) (by simp) ?_; intro A3 c3 w3 ho3 hb3 _ _)
  rw [List.nil_append] at ho3
  have H3 := Lib.hid (And.intro ho3 (H1.out.then (((Below.refl _ _).alloc (Nat.le_refl _) _).trans hb3)))
  clear ho3 hb3 hoe HR1
  have kne := run_str_ne
  have gne := eqg_ne
  have keq := run_str_eq
  have geq := eqg_eq
  have klt := run_str_lt
  have hll : (l == l) = true := by simp
  refine (kafter_any _ A3 c3 l H3.out.1.row (Nat.le_trans hlm (by decide))).mono ?_
  rintro e w4 ⟨r, hr, hb4, hcase⟩
  have HAR := Lib.hid hr
  have HASK := Lib.hid (after_ask (t := t) hr)
  have HO4 := Lib.hid (And.intro (H3.out.1.row.below hb4) (H3.out.2.then hb4))
  clear hb4 hr
  have hs4 : ∀ c', (convert 30 9 (.slice A l.length c')).run Tryd.prog w4 = .ok (txt l) w4 := fun c' => run_string_bytes w4 c' (HR.out.below HO4.out.2)
  rcases hcase with ⟨rfl, rfl⟩ | ⟨a, A4, c4, rfl, rfl, hra, hac⟩
  · go_wp2_with fail
    refine (refafter_any _ l (Nat.le_trans hlm (by decide))).mono ?_
    rintro e w5 ⟨r2, hr2, hb5, hcase2⟩
    obtain rfl : r2 = none := hr2.unique HAR.out
    rcases hcase2 with ⟨-, rfl⟩ | ⟨a, h, -⟩
    · have hnil : (([] : List UInt8) == []) = true := rfl
      have hqa : ∀ c', (convert 30 9 (.slice none 0 c')).run Tryd.prog w5 = .ok (txt []) w5 := fun c' => run_string_bytes w5 c' (A := none) (l := []) BRow.nil
      have hask := HASK.out.1 (by first | rfl | trivial)
      have HB5 := Lib.hid (HO4.out.2.then hb5)
      have hs5 : ∀ c', (convert 30 9 (.slice A l.length c')).run Tryd.prog w5 = .ok (txt l) w5 := fun c' => run_string_bytes w5 c' (HR.out.below HB5.out)
      have hs6 : ∀ c', (convert 30 9 (.slice A l.length c')).run Tryd.prog w5.drew = .ok (txt l) w5.drew := fun c' => run_string_bytes w5.drew c' (HR.out.below HB5.out).drew
      have hs7 : ∀ c', (convert 30 9 (.slice A3 l.length c')).run Tryd.prog w5 = .ok (txt l) w5 := fun c' => run_string_bytes w5 c' (HO4.out.1.below hb5)
      have hs8 : ∀ c', (convert 30 9 (.slice B t.length c')).run Tryd.prog w5.drew = .ok (txt t) w5.drew := fun c' => run_string_bytes w5.drew c' (HT.out.below HB5.out).drew
      clear hs4 hb5 hr2
      go_upto_region 8 with fail
      clear hs7 hs5 hqa
      have hd1 : ∀ x : Bool, (true == x) = x := by decide
      by_cases hlen : l.length ≤ t.length
      · have hci : ¬ (t.length : Int) < (l.length : Int) := by omega
        have hcj : (l.length : Int) ≤ (t.length : Int) := by omega
        have hcut := cut_h B t.length d (l.length : Int) l.length rfl (Nat.le_trans hlen HLD.out)
        have hs9 : ∀ c', (convert 30 9 (.slice B l.length c')).run Tryd.prog w5.drew = .ok (txt (t.take l.length)) w5.drew := fun c' => by
          have := run_string_bytes w5.drew c' ((HT.out.below HB5.out).drew.take l.length)
          rw [List.length_take, Nat.min_eq_left hlen] at this
          exact this
        rw [decide_eq_true hlen] at hask
        cases hq1 : Op.bytesLess t l <;> cases hq2 : (t.take l.length == l) <;> simp only [hq1, hq2, Bool.or_true, Bool.true_and, Bool.and_true, Bool.or_false, Bool.and_false, Bool.true_or, Bool.false_or, Bool.false_eq_true] at hask
        all_goals
          clear hlen
          refine wp_region_plan (.take 0 (.take 1 (.take 2 (.take 3 (.take 4 (.take 5 (.take 6 (.take 7 (.take 8 (.take 9 (.take 10 (.take 11 (.take 12 (.take 13 (.take 14 (.take 15 .fin)))))))))))))))) (by kernel_rfl) (by kernel_rfl) (by kernel_rfl) (by kernel_rfl) ?_
          repeat' (first | (refine hZ _ _ ?_; clear hZ) | (refine hZ _ ?_; clear hZ) | (refine hZ ?_; clear hZ) | rw [again_nil] | rw [walk_fin] | ((first | rw [walk_take] | rw [walk_run] | rw [again_cons]); intro Z hZ; simp only [sel, List.getElem?_toArray, List.getElem?_cons_zero, List.getElem?_cons_succ]; go_wp2_with (fail)))
          clear hcut hs9
          go_wp2_with fail
          go_ret
          exact ⟨rfl, HB5.out.drewR⟩
      · have hci : (t.length : Int) < (l.length : Int) := by omega
        have hcj : ¬ (l.length : Int) ≤ (t.length : Int) := by omega
        rw [decide_eq_false hlen] at hask
        cases hq1 : Op.bytesLess t l <;> simp only [hq1, Bool.or_true, Bool.true_and, Bool.and_true, Bool.or_false, Bool.and_false, Bool.true_or, Bool.false_or, Bool.false_and, Bool.false_eq_true] at hask
        all_goals
          clear hlen
          refine wp_region_plan (.take 0 (.take 1 (.take 2 (.take 3 (.take 4 (.take 5 (.take 6 (.take 7 (.take 8 (.take 9 (.take 10 (.take 11 (.take 12 (.take 13 (.take 14 (.take 15 .fin)))))))))))))))) (by kernel_rfl) (by kernel_rfl) (by kernel_rfl) (by kernel_rfl) ?_
          repeat' (first | (refine hZ _ _ ?_; clear hZ) | (refine hZ _ ?_; clear hZ) | (refine hZ ?_; clear hZ) | rw [again_nil] | rw [walk_fin] | ((first | rw [walk_take] | rw [walk_run] | rw [again_cons]); intro Z hZ; simp only [sel, List.getElem?_toArray, List.getElem?_cons_zero, List.getElem?_cons_succ]; go_wp2_with (fail)))
          go_wp2_with fail
          go_ret
          exact ⟨rfl, HB5.out.drewR⟩
    · cases h
  · have HRA := Lib.hid hra
    clear hra
    go_wp2_with fail
    refine (refafter_any _ l (Nat.le_trans hlm (by decide))).mono ?_
    rintro e w5 ⟨r2, hr2, hb5, hcase2⟩
    obtain rfl : r2 = some a := hr2.unique HAR.out
    rcases hcase2 with ⟨h, -⟩ | ⟨a', h, rfl⟩
    · cases h
    · obtain rfl := Option.some.inj h
      have hnil : (a == a) = true := by simp
      have hqa : ∀ c', (convert 30 9 (.slice A4 a.length c')).run Tryd.prog w5 = .ok (txt a) w5 := fun c' => run_string_bytes w5 c' (HRA.out.below hb5)
      have hqb : ∀ c', (convert 30 9 (.slice A4 a.length c')).run Tryd.prog w5.drew = .ok (txt a) w5.drew := fun c' => run_string_bytes w5.drew c' (HRA.out.below hb5).drew
      have hask := HASK.out.2 a rfl
      have HB5 := Lib.hid (HO4.out.2.then hb5)
      have hs5 : ∀ c', (convert 30 9 (.slice A l.length c')).run Tryd.prog w5 = .ok (txt l) w5 := fun c' => run_string_bytes w5 c' (HR.out.below HB5.out)
      have hs6 : ∀ c', (convert 30 9 (.slice A l.length c')).run Tryd.prog w5.drew = .ok (txt l) w5.drew := fun c' => run_string_bytes w5.drew c' (HR.out.below HB5.out).drew
      have hs7 : ∀ c', (convert 30 9 (.slice A3 l.length c')).run Tryd.prog w5 = .ok (txt l) w5 := fun c' => run_string_bytes w5 c' (HO4.out.1.below hb5)
      have hs8 : ∀ c', (convert 30 9 (.slice B t.length c')).run Tryd.prog w5.drew = .ok (txt t) w5.drew := fun c' => run_string_bytes w5.drew c' (HT.out.below HB5.out).drew
      clear hs4 hb5 hr2
      go_upto_region 8 with fail
      clear hs7 hs5 hqa
      have hd1 : ∀ x : Bool, (true == x) = x := by decide
      by_cases hlen : l.length ≤ t.length
      · have hci : ¬ (t.length : Int) < (l.length : Int) := by omega
        have hcj : (l.length : Int) ≤ (t.length : Int) := by omega
        have hcut := cut_h B t.length d (l.length : Int) l.length rfl (Nat.le_trans hlen HLD.out)
        have hs9 : ∀ c', (convert 30 9 (.slice B l.length c')).run Tryd.prog w5.drew = .ok (txt (t.take l.length)) w5.drew := fun c' => by
          have := run_string_bytes w5.drew c' ((HT.out.below HB5.out).drew.take l.length)
          rw [List.length_take, Nat.min_eq_left hlen] at this
          exact this
        rw [decide_eq_true hlen] at hask
        cases hq1 : Op.bytesLess t l <;> cases hq2 : (t.take l.length == l) <;> simp only [hq1, hq2, Bool.or_true, Bool.true_and, Bool.and_true, Bool.or_false, Bool.and_false, Bool.true_or, Bool.false_or, Bool.false_eq_true] at hask
        all_goals
          clear hlen
          refine wp_region_plan (.take 0 (.take 1 (.take 2 (.take 3 (.take 4 (.take 5 (.take 6 (.take 7 (.take 8 (.take 9 (.take 10 (.take 11 (.take 12 (.take 13 (.take 14 (.take 15 .fin)))))))))))))))) (by kernel_rfl) (by kernel_rfl) (by kernel_rfl) (by kernel_rfl) ?_
          repeat' (first | (refine hZ _ _ ?_; clear hZ) | (refine hZ _ ?_; clear hZ) | (refine hZ ?_; clear hZ) | rw [again_nil] | rw [walk_fin] | ((first | rw [walk_take] | rw [walk_run] | rw [again_cons]); intro Z hZ; simp only [sel, List.getElem?_toArray, List.getElem?_cons_zero, List.getElem?_cons_succ]; go_wp2_with (fail)))
          clear hcut hs9
          go_wp2_with fail
          go_ret
          exact ⟨rfl, HB5.out.drewR⟩
      · have hci : (t.length : Int) < (l.length : Int) := by omega
        have hcj : ¬ (l.length : Int) ≤ (t.length : Int) := by omega
        rw [decide_eq_false hlen] at hask
        cases hq1 : Op.bytesLess t l <;> simp only [hq1, Bool.or_true, Bool.true_and, Bool.and_true, Bool.or_false, Bool.and_false, Bool.true_or, Bool.false_or, Bool.false_and, Bool.false_eq_true] at hask
        all_goals
          clear hlen
          refine wp_region_plan (.take 0 (.take 1 (.take 2 (.take 3 (.take 4 (.take 5 (.take 6 (.take 7 (.take 8 (.take 9 (.take 10 (.take 11 (.take 12 (.take 13 (.take 14 (.take 15 .fin)))))))))))))))) (by kernel_rfl) (by kernel_rfl) (by kernel_rfl) (by kernel_rfl) ?_
          repeat' (first | (refine hZ _ _ ?_; clear hZ) | (refine hZ _ ?_; clear hZ) | (refine hZ ?_; clear hZ) | rw [again_nil] | rw [walk_fin] | ((first | rw [walk_take] | rw [walk_run] | rw [again_cons]); intro Z hZ; simp only [sel, List.getElem?_toArray, List.getElem?_cons_zero, List.getElem?_cons_succ]; go_wp2_with (fail)))
          go_wp2_with fail
          go_ret
          exact ⟨rfl, HB5.out.drewR⟩
end Go.Proofs.YtknfnhmkiooifaaDoor
end

