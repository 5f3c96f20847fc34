/-
  The contract of crc.Sum: the sum of all parts, one behind the other; nothing is written.
-/
import Derived.Test.YtgdlfihiheeniaaProg
import Derived.Test.YtgdlfihiheeniaaBase
import Derived.Test.YtgdlfihiheeniaaCrc
namespace Go.Proofs.Ytgdlfihiheeniaa
open Go.RowKit

/-- A part of what is summed: its address, its room, its bytes. -/
structure Part where
  a : Option Addr
  c : Nat
  l : List UInt8
def Part.v (p : Part) : Value := .slice p.a p.l.length p.c
def Part.ok (w : World) (p : Part) : Prop := BRow w p.a p.l ∧ p.l.length ≤ 9223372036854775807

theorem crc_and (s : Nat) (h : s < 4294967296) : Go.bits .and .u32 (s : Int) 1 = ((s % 2 : Nat) : Int) := by
  rw [show (1 : Int) = ((1 : Nat) : Int) from rfl, u32_and_nat _ _ h (by omega), nat_mask1]
theorem crc_xor (s c : Nat) (h : s < 4294967296) (hc : c < 256) : Go.bits .xor .u32 (s : Int) (c : Int) = ((s ^^^ c : Nat) : Int) := u32_xor_nat _ _ h (by omega)
theorem crc_poly (s : Nat) (h : s < 4294967296) (h1 : s % 2 = 1) : Go.bits .xor .u32 ((s : Int) / 2) 3988292384 = ((Crc.bit s : Nat) : Int) := by
  rw [show (3988292384 : Int) = ((3988292384 : Nat) : Int) from rfl, show (s : Int) / 2 = ((s / 2 : Nat) : Int) from rfl, u32_xor_nat _ _ (by omega) (by omega), Crc.bit, if_pos h1]
theorem crc_shr (s : Nat) (h1 : s % 2 ≠ 1) : ((s : Int) / 2) = ((Crc.bit s : Nat) : Int) := by
  rw [Crc.bit, if_neg h1]; rfl
theorem crc_not (s : Nat) (h : s < 4294967296) : Go.bits .xor .u32 IntKind.u32.max (s : Int) = ((s ^^^ 4294967295 : Nat) : Int) := by
  rw [show IntKind.u32.max = ((4294967295 : Nat) : Int) from rfl, u32_xor_nat _ _ (by omega) h, Nat.xor_comm]
theorem take_flat (ps : List Part) (k : Nat) (hk : k < ps.length) : (ps.take (k + 1)).flatMap (·.l) = (ps.take k).flatMap (·.l) ++ ps[k].l := by
  rw [List.take_succ_eq_append_getElem hk, List.flatMap_append]; simp

set_option maxHeartbeats 800000 in
theorem sum_any (w : World) (A : Option Addr) (c : Nat) (ps : List Part) (hrow : Row w A (ps.map Part.v)) (hps : ∀ p ∈ ps, p.ok w) (hn : ps.length ≤ 9223372036854775807) :
    Calls Try.prog 17 #[.slice A ps.length c] w fun e w' => e = .returned (.int .u32 (Crc.sum (ps.flatMap (·.l)) : Nat)) ∧ w = w' := by
  have HP := Lib.hid hps
  clear hps
  go_enter Try.func17, Try.ntmps17
  go_wp2
  go_loop [3, 11] (fun s i => ∃ k : Nat, k ≤ ps.length ∧ i = .int .i64 k ∧ s = .int .u32 (Crc.run 4294967295 ((ps.take k).flatMap (·.l)) : Nat)) (fun _ i => ps.length - (intOf i).toNat)
  case atStart => exact ⟨0, Nat.zero_le _, rfl, by simp [Crc.run_nil]⟩
  case round =>
    obtain ⟨k, hk, rfl, rfl⟩ := hrel
    by_cases hlt : k < ps.length
    · have HT := Lib.hid (take_flat ps k hlt)
      have hc : ∃ b o a c l, A = some ⟨b, o, none⟩ ∧ ps[k].l = l ∧ w.cell? ⟨b, o + k, none⟩ = some (.slice a l.length c) ∧ BRow w a l ∧ l.length ≤ 9223372036854775807 := by
        obtain ⟨b, o, e, _, hc⟩ := Row.at_ (k := k) hrow (by simpa using hlt)
        have hp := HP.out ps[k] (List.getElem_mem hlt)
        exact ⟨b, o, ps[k].a, ps[k].c, ps[k].l, e, rfl, by simpa [Part.v] using hc, hp.1, hp.2⟩
      obtain ⟨b, o, a, c', l, rfl, hl, hc, hb, hll⟩ := hc
      have HL := Lib.hid hl
      clear hl hrow
      have hs : Crc.run 4294967295 ((ps.take k).flatMap (·.l)) < 4294967296 := Crc.run_lt _ (by omega)
      generalize hS : Crc.run 4294967295 ((ps.take k).flatMap (·.l)) = s at hs
      have HS0 := Lib.hid hS
      clear hS
      go_wp2
      go_loop [3, 17] (fun r i => ∃ j : Nat, j ≤ l.length ∧ i = .int .i64 j ∧ r = .int .u32 (Crc.run s (l.take j) : Nat)) (fun _ i => l.length - (intOf i).toNat)
      case atStart => exact ⟨0, Nat.zero_le _, rfl, by simp [Crc.run_nil]⟩
      case round =>
        obtain ⟨j, hj, rfl, rfl⟩ := hrel
        by_cases hjl : j < l.length
        · obtain ⟨b', o', rfl, _, hcj⟩ := BRow.at_ hb hjl
          have hcl := l[j].toNat_lt
          have HS : Hid (Crc.run s (l.take (j + 1)) = Crc.bits 8 (Crc.run s (l.take j) ^^^ l[j].toNat)) := by
            rw [List.take_succ_eq_append_getElem hjl, Crc.run_snoc]; rfl
          have hr : Crc.run s (l.take j) < 4294967296 := Crc.run_lt _ hs
          generalize Crc.run s (l.take j) = r at hr HS ⊢
          generalize l[j].toNat = cc at hcl hcj HS ⊢
          have hx := crc_xor r cc hr hcl
          have hxl : r ^^^ cc < 4294967296 := Crc.xor_lt hr (by omega)
          have HX := Lib.hid hx
          clear hx
          generalize r ^^^ cc = y at HX hxl HS
          go_wp2
          go_loop [3, 25] (fun r i => ∃ m : Nat, m ≤ 8 ∧ i = .int .i64 m ∧ r = .int .u32 (Crc.bits m y : Nat)) (fun _ i => 8 - (intOf i).toNat)
          case atStart => exact ⟨0, Nat.zero_le _, rfl, by rw [HX.out]; rfl⟩
          case round =>
            obtain ⟨m, hm, rfl, rfl⟩ := hrel
            by_cases hm8 : m < 8
            · have HB : Hid (Crc.bits (m + 1) y = Crc.bit (Crc.bits m y)) := rfl
              have hz : Crc.bits m y < 4294967296 := Crc.bits_lt m hxl
              generalize Crc.bits m y = z at hz HB
              have ha := crc_and z hz
              by_cases h1 : z % 2 = 1
              · have hp := crc_poly z hz h1
                rw [h1] at ha
                have H1 := Lib.hid h1
                clear h1
                go_wp2
                go_round
                case rel => exact ⟨m + 1, by omega, by go_num, by rw [HB.out]⟩
                case measure => simp [intOf]; omega
              · have h0 : z % 2 = 0 := by omega
                have HP2 := Lib.hid (crc_shr z h1)
                rw [h0] at ha
                clear h1 h0
                go_wp2
                go_round
                case rel => exact ⟨m + 1, by omega, by go_num, by rw [HB.out, HP2.out]⟩
                case measure => simp [intOf]; omega
            · obtain rfl : m = 8 := by omega
              go_wp2
              go_round
              case rel => exact ⟨j + 1, by omega, by go_num, by rw [HS.out]⟩
              case measure => simp [intOf]; omega
        · obtain rfl : j = l.length := by omega
          have HR : Hid (List.take l.length l = l) := List.take_length
          go_wp2
          go_round
          case rel => exact ⟨k + 1, by omega, by go_num, by rw [HR.out, HT.out, HL.out, Crc.run_append, HS0.out]⟩
          case measure => simp [intOf]; omega
    · have hs : Crc.run 4294967295 ((ps.take k).flatMap (·.l)) < 4294967296 := Crc.run_lt _ (by omega)
      have hx := crc_not _ hs
      go_wp2
      go_ret
      have : ps.take k = ps := List.take_of_length_le (by omega)
      exact ⟨by rw [this]; rfl, rfl⟩
end Go.Proofs.Ytgdlfihiheeniaa
