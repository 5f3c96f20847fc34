/-
  The walk of CrcBursts.
-/
import Derived.Test.YtgdlfihiheeniaaCrcFns
namespace Go.Proofs.Ytgdlfihiheeniaa
open Go.RowKit

theorem bit_val {T i : Nat} (hT : T < 4294967296) : Go.bits .and .u32 ((T : Int) / 2 ^ i) 1 = ((T / 2 ^ i % 2 : Nat) : Int) := by
  have h : T / 2 ^ i < 4294967296 := Nat.lt_of_le_of_lt (Nat.div_le_self _ _) hT
  have e : (T : Int) / 2 ^ i = ((T / 2 ^ i : Nat) : Int) := by simp
  rw [e]
  exact crc_and _ h
theorem bit_off {T i : Nat} (hT : T < 4294967296) (h : (Go.bits .and .u32 ((T : Int) / 2 ^ i) 1 == 1) = false) : T / 2 ^ i % 2 = 0 := by
  rw [bit_val hT] at h
  have h1 : ¬ ((T / 2 ^ i % 2 : Nat) : Int) = 1 := by simpa using h
  omega
theorem bit_on {T i : Nat} (hT : T < 4294967296) (h : (Go.bits .and .u32 ((T : Int) / 2 ^ i) 1 == 1) = true) : T / 2 ^ i % 2 = 1 := by
  rw [bit_val hT] at h
  have h1 : ((T / 2 ^ i % 2 : Nat) : Int) = 1 := by simpa using h
  omega

theorem flip_val {c : UInt8} {cc r : Nat} (hcl : cc < 2 ^ 8) (h : c.toNat = cc) : bv (c ^^^ UInt8.ofNat (2 ^ r)) = .int .u8 (Go.bits .xor .u8 (cc : Int) (2 ^ r % 256)) := by
  subst h
  have e : (2 ^ r % 256 : Int) = ((2 ^ r % 256 : Nat) : Int) := by simp
  rw [e, u8_xor_nat _ _ hcl (by omega)]
  unfold bv
  rw [UInt8.toNat_xor, UInt8.toNat_ofNat']

set_option maxHeartbeats 1000000 in
theorem crcBursts_walk (w : World) (A : Option Addr) (c : Nat) (l : List UInt8) (hr : BRow w A l) (_hc : l.length ≤ c) (_hm : c ≤ maxLen) (at' : Int) (wat : (Lit.int .i64 at').wf = true) (t : Int) (wt : (Lit.int .u32 t).wf = true) :
    Calls Try.prog 6 #[.slice A l.length c, .int .i64 at', .int .u32 t] w fun e w' => e = .returned (.bool true) ∧ Below w.heap.size w w' := by
  by_cases h1 : 1000 < l.length
  · go_enter Try.func6, Try.ntmps6
    go_wp2_with fail
    refine (lives_any w).mono ?_
    rintro e w1 ⟨rfl, hb1⟩
    go_wp2_with fail
    refine (lives_any _).mono ?_
    rintro e w2 ⟨rfl, hb2⟩
    go_wp2_with fail
    go_ret
    exact ⟨rfl, hb1.trans (hb2.mono hb1.size)⟩
  by_cases h2 : t = 0
  · subst h2
    go_enter Try.func6, Try.ntmps6
    go_wp2_with fail
    refine (lives_any w).mono ?_
    rintro e w1 ⟨rfl, hb1⟩
    go_wp2_with fail
    refine (lives_any _).mono ?_
    rintro e w2 ⟨rfl, hb2⟩
    go_wp2_with fail
    go_ret
    exact ⟨rfl, hb1.trans (hb2.mono hb1.size)⟩
  obtain ⟨T, rfl, hT, hT0⟩ : ∃ T : Nat, t = (T : Int) ∧ T < 4294967296 ∧ T ≠ 0 := by
    simp [Lit.wf, IntKind.min, IntKind.max, IntKind.signed, IntKind.bits] at wt
    exact ⟨t.toNat, by omega, by omega, by omega⟩
  have hTb : ((T : Int) == 0) = false := by simp; omega
  clear h2 wt
  go_enter Try.func6, Try.ntmps6
  go_wp2_with fail
  refine (lives_any w).mono ?_
  rintro e w1 ⟨rfl, hb1⟩
  have hr1 := hr.below hb1
  go_wp2_with fail
  refine (seal_any w1 _ c l hr1 (by omega)).mono ?_
  rintro e w3 ⟨A3, c3, rfl, ho3, hb3⟩
  have hB3 : Below w.heap.size w w3 := hb1.trans (hb3.mono hb1.size)
  have ho3 := ho3.mono hb1.size
  clear hb3 hr1 hb1 hr
  have hlen := Crc.sealed_length l
  obtain ⟨g, hA, hg1, hg2, hg3, _⟩ := ho3.form.resolve_left (by rintro ⟨_, _, h⟩; rw [h] at hlen; simp at hlen)
  subst hA
  rw [hlen]
  have HL := Lib.hid hlen
  clear hlen
  have hn : l.length ≤ 1000 := by omega
  have HN : Hid (l.length = l.length) := rfl
  generalize hnn : l.length = n at hn
  have HNN := Lib.hid hnn
  clear hnn HN h1
  go_wp2_with fail
  obtain ⟨k, hk, hk8⟩ : ∃ k : Nat, wrap64 ((IntKind.u64.wrap at').tmod (8 * ((n : Int) + 4) - 31)) = (k : Int) ∧ k + 31 < 8 * (n + 4) := by
    have h0 : 0 ≤ IntKind.u64.wrap at' := by simp [IntKind.wrap, IntKind.bits, IntKind.signed]; omega
    rw [Int.tmod_eq_emod_of_nonneg h0]
    have h1 := Int.emod_nonneg (IntKind.u64.wrap at') (show 8 * ((n : Int) + 4) - 31 ≠ 0 by omega)
    have h2 := Int.emod_lt_of_pos (IntKind.u64.wrap at') (show 0 < 8 * ((n : Int) + 4) - 31 by omega)
    refine ⟨((IntKind.u64.wrap at') % (8 * ((n : Int) + 4) - 31)).toNat, ?_, by omega⟩
    rw [IntWalk.wrap64_in _ (by omega)]
    omega
  rw [hk]
  clear hk wat
  go_loopw [41] (fun iv wr => ∃ i : Nat, i ≤ 32 ∧ iv = .int .i64 i ∧ BOwn wr w.heap.size (some ⟨g, 0, none⟩) c3 (Crc.turned l k T i) ∧ Below w.heap.size w wr) (fun iv _ => 32 - (intOf iv).toNat)
  case atStart => exact ⟨0, by omega, rfl, by rw [Crc.turned_zero]; exact ho3, hB3⟩
  case round =>
    obtain ⟨i, hi, rfl, hown, hB⟩ := hrel
    clear ho3 hB3
    by_cases hlt : i < 32
    · have hlen : (Crc.turned l k T i).length = n + 4 := by rw [Crc.turned_length, HNN.out]
      have hq : (k + i) / 8 < (Crc.turned l k T i).length := by omega
      have hq8 : (k + i) / 8 < n + 4 := by omega
      have hcell := hown.cell hq
      have hfree := hown.free ((k + i) / 8)
      have hcl := (Crc.turned l k T i)[(k + i) / 8].toNat_lt
      have HC : Hid (((Crc.turned l k T i)[(k + i) / 8]).toNat = ((Crc.turned l k T i)[(k + i) / 8]).toNat) := rfl
      generalize hcc : (Crc.turned l k T i)[(k + i) / 8].toNat = cc at hcell hcl
      have HCC := Lib.hid hcc
      have HLEN := Lib.hid hlen
      clear hcc HC hlen
      go_wp2_with fail
      · go_region
        go_wp2_with fail
        go_roundw
        case rel =>
          refine ⟨i + 1, by omega, by go_num, ?_, (hB.setCell (p := ⟨g, (k + i) / 8, none⟩) hg1 _).drew⟩
          have h : (bits BinOp.and IntKind.u32 ((T : Int) / 2 ^ i) 1 == 1) = true := by assumption
          rw [Crc.turned_bit _ _ _ _ (bit_on hT h) (by rw [HNN.out]; exact hq8)]
          exact (hown.store ((k + i) / 8) _ _ (flip_val hcl HCC.out)).drew
        case measure => simp [intOf]; omega
      · go_roundw
        case rel =>
          refine ⟨i + 1, by omega, by go_num, ?_, hB⟩
          have h : (bits BinOp.and IntKind.u32 ((T : Int) / 2 ^ i) 1 == 1) = false := by assumption
          rw [Crc.turned_skip _ _ _ _ (bit_off hT h)]
          exact hown
        case measure => simp [intOf]; omega
    · obtain rfl : i = 32 := by omega
      have hlen : (Crc.turned l k T 32).length = n + 4 := by rw [Crc.turned_length, HNN.out]
      have hne := fun a b h => Crc.turned_ne l k T hT0 hT (by rw [HNN.out]; omega) a b h
      have hrow := hown.row
      have hcap := hown.cap
      rw [hlen] at hcap
      obtain ⟨a, b, hab, ha, hb⟩ : ∃ a b : List UInt8, a ++ b = Crc.turned l k T 32 ∧ a.length = n ∧ b.length = 4 := ⟨_, _, List.take_append_drop n _, by simp; omega, by simp; omega⟩
      have hs := hne a b hab
      rw [← hab] at hrow
      clear hne hown hlen hab
      have HS : Hid ((Crc.sealed a != a ++ b) = true) := by
        show _ = _
        simpa using hs
      have HA := Lib.hid ha
      have HB := Lib.hid hb
      clear hs ha hb
      go_wp2_with fail
      refine (open_sum wr _ c3 n a b HA.out HB.out hrow (by omega) hcap HS.out).mono ?_
      rintro e w6 ⟨rfl, hb6⟩
      go_wp2_with fail
      go_ret
      exact ⟨rfl, hB.trans (hb6.mono hB.size)⟩
end Go.Proofs.Ytgdlfihiheeniaa
