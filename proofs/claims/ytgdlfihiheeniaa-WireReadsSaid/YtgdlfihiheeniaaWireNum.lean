/-
  The contracts of wire.Num, wire.Int, wire.Bool, wire.Text.
-/
import Derived.Test.YtgdlfihiheeniaaBase
import Derived.Test.YtgdlfihiheeniaaWire
namespace Go.Proofs.Ytgdlfihiheeniaa
open Go.RowKit

/-- The number fits f digits of seven bits. -/
structure Fits (m f : Nat) : Prop where
  lt : m < 128 ^ f
theorem numF_step (f m : Nat) (h : 128 ≤ m) : Wire.numF (f + 1) m = UInt8.ofNat (m % 128 + 128) :: Wire.numF f (m / 128) := by
  rw [Wire.numF, if_neg (by omega)]
theorem numF_last (f m : Nat) (h : m < 128) : Wire.numF (f + 1) m = [UInt8.ofNat m] := by
  rw [Wire.numF, if_pos h]
theorem bv_hi (m : Nat) : bv (UInt8.ofNat (m % 128 + 128)) = .int .u8 ((m : Int) % 128 + 128) := by
  simp [bv]; omega
theorem bv_lo (m : Nat) (h : m < 128) : bv (UInt8.ofNat m) = .int .u8 (m : Int) := by
  simp [bv]; omega

theorem u64_quo128 (m : Nat) (h : m < two64) : IntKind.u64.wrap ((m : Int) / 128) = ((m / 128 : Nat) : Int) := by
  rw [two64_eq] at h
  rw [IntWalk.u64_in _ (by omega)]
  omega

set_option maxRecDepth 20000 in
set_option maxHeartbeats 800000 in
theorem wnum_any (w : World) (n : Nat) (hn : n < two64) : Calls Try.prog 23 #[.int .u64 (n : Int)] w (RetB w (Wire.num n)) := by
  have HN0 := Lib.hid hn
  clear hn
  go_enter Try.func23, Try.ntmps23
  go_wp2_with fail
  go_loopw [0, 3] (fun nv bv wr => ∃ (m f : Nat) (A : Option Addr) (c : Nat) (pre : List UInt8), nv = .int .u64 (m : Int) ∧ bv = .slice A pre.length c ∧ Hid (m < two64) ∧ Fits m (f + 1) ∧ pre.length + f = 9 ∧
    BOwn wr w.heap.size A c pre ∧ Below w.heap.size w wr ∧ Hid (Wire.num n = pre ++ Wire.numF (f + 1) m)) (fun nv _ _ => (intOf nv).toNat)
  case atStart => exact ⟨n, 9, none, 0, [], rfl, rfl, HN0, ⟨Nat.lt_of_lt_of_le HN0.out (by decide)⟩, rfl, BOwn.nil _ _, Below.refl _ _, rfl⟩
  case round =>
    obtain ⟨m, f, A, c, pre, rfl, rfl, HB, HM, hf, ho, hB, HN⟩ := hrel
    have hs := hB.size
    by_cases h : 128 ≤ m
    · have HQ := Lib.hid (u64_quo128 m HB.out)
      have hd : m / 128 < 128 ^ f := by
        have := HM.lt
        rw [Nat.pow_succ] at this
        exact Nat.div_lt_of_lt_mul (by rw [Nat.mul_comm]; exact this)
      obtain ⟨f, rfl⟩ : ∃ g, f = g + 1 := by
        cases f with
        | zero => simp at hd; omega
        | succ g => exact ⟨g, rfl⟩
      have HD : Fits (m / 128) (f + 1) := ⟨hd⟩
      clear hd
      go_wp2_with (at_builtin; refine wpList_append_bytes rfl (.tmp 6) (.tmp 11) rfl _ rfl (ho.alloc _) rfl _ rfl (BRow.one wr (UInt8.ofNat (m % 128 + 128)) _ _ (bv_hi m)) rfl (by simp; omega) (by simp; omega) ?_; intro A3 c3 w3 ho3 hb3 _ _)
      go_roundw
      case rel =>
        refine ⟨m / 128, f, A3, c3, pre ++ [UInt8.ofNat (m % 128 + 128)], by rw [HQ.out], by simp, Nat.lt_of_le_of_lt (Nat.div_le_self _ _) HB.out, HD, by simp; omega, ho3, (hB.alloc hs _).trans hb3, ?_⟩
        show _ = _
        rw [HN.out, numF_step _ _ h, List.append_assoc]
        rfl
      case measure => rw [HQ.out]; simp [intOf]; omega
    · have hl := Lib.hid (numF_last f m (by omega))
      go_wp2_with (at_builtin; refine wpList_append_bytes rfl (.tmp 15) (.tmp 18) rfl _ rfl (ho.alloc _) rfl _ rfl (BRow.one wr (UInt8.ofNat m) _ _ (bv_lo m (by omega))) rfl (by simp; omega) (by simp; omega) ?_; intro A3 c3 w3 ho3 hb3 _ _)
      go_ret
      refine ⟨A3, c3, ?_, ?_, (hB.alloc hs _).trans hb3⟩
      · rw [HN.out, hl.out]; simp
      · rw [HN.out, hl.out]; exact ho3

set_option maxRecDepth 20000 in
set_option maxHeartbeats 400000 in
theorem wbool_any (w : World) (x : Bool) : Calls Try.prog 39 #[.bool x] w (RetB w [if x then 1 else 0]) := by
  cases x
  · go_enter Try.func39, Try.ntmps39
    go_wp2_with fail
    go_ret
    exact ⟨_, 1, rfl, by have := BOwn.new (B := w.heap.size) w [0] (by simp [maxLen]) (Nat.le_refl _); simpa [bv] using this, (Below.refl _ _).alloc (Nat.le_refl _) _⟩
  · go_enter Try.func39, Try.ntmps39
    go_wp2_with fail
    go_ret
    exact ⟨_, 1, rfl, by have := BOwn.new (B := w.heap.size) w [1] (by simp [maxLen]) (Nat.le_refl _); simpa [bv] using this, (Below.refl _ _).alloc (Nat.le_refl _) _⟩

set_option maxRecDepth 20000 in
set_option maxHeartbeats 400000 in
theorem wint_any (w : World) (n : Int) (h1 : -9223372036854775808 ≤ n) (h2 : n ≤ 9223372036854775807) : Calls Try.prog 38 #[.int .i64 n] w (RetB w (Wire.num (Wire.ofInt n))) := by
  have hlt := Wire.ofInt_lt n h1 h2
  by_cases h : n < 0
  · have he : Wire.ofInt n = (-(n + 1)).toNat * 2 + 1 := by unfold Wire.ofInt; rw [if_pos h]
    have h3 : ((Wire.ofInt n : Nat) : Int) = -(n + 1) * 2 + 1 := by rw [he]; omega
    generalize Wire.ofInt n = q at hlt h3
    have H3 := Lib.hid h3
    have HL := Lib.hid hlt
    clear h3 hlt he
    go_enter Try.func38, Try.ntmps38
    go_wp2_with fail
    rw [← H3.out]
    refine (wnum_any w q HL.out).mono ?_
    rintro e w1 ⟨A1, c1, rfl, ho1, hb1⟩
    go_wp2_with fail
    go_ret
    exact ⟨A1, c1, rfl, ho1, hb1⟩
  · have he : Wire.ofInt n = n.toNat * 2 := by unfold Wire.ofInt; rw [if_neg h]
    have h3 : ((Wire.ofInt n : Nat) : Int) = n * 2 := by rw [he]; omega
    generalize Wire.ofInt n = q at hlt h3
    have H3 := Lib.hid h3
    have HL := Lib.hid hlt
    clear h3 hlt he
    go_enter Try.func38, Try.ntmps38
    go_wp2_with fail
    rw [← H3.out]
    refine (wnum_any w q HL.out).mono ?_
    rintro e w1 ⟨A1, c1, rfl, ho1, hb1⟩
    go_wp2_with fail
    go_ret
    exact ⟨A1, c1, rfl, ho1, hb1⟩

set_option maxRecDepth 20000 in
set_option maxHeartbeats 400000 in
theorem wtext_any (w : World) (l : List UInt8) (hl : l.length ≤ 1000000) : Calls Try.prog 29 #[txt l] w (RetB w (Wire.text l)) := by
  go_enter Try.func29, Try.ntmps29
  unfold txt
  go_wp2_with fail
  refine (wnum_any w l.length (by rw [two64_eq]; omega)).mono ?_
  rintro e w1 ⟨A1, c1, rfl, ho1, hb1⟩
  have h10 := (Wire.num_length l.length).2
  have hs1 := hb1.size
  have HT : Hid (Wire.text l = Wire.num l.length ++ l) := rfl
  generalize Wire.num l.length = p at ho1 h10 HT
  go_wp2_with (at_builtin; refine wpList_append_text rfl (.tmp 6) (.tmp 7) rfl _ rfl ho1 rfl rfl (by omega) hs1 ?_; intro A2 c2 w2 ho2 hb2)
  go_ret
  exact ⟨A2, c2, by rw [HT.out]; simp, by rw [HT.out]; exact ho2, hb1.trans hb2⟩
end Go.Proofs.Ytgdlfihiheeniaa
