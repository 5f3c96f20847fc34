/-
  The contracts of dowserref01.Num, Int, Text.
-/
import Derived.Test.YtgdlfihiheeniaaRegion
import Derived.Test.YtgdlfihiheeniaaWireNum
namespace Go.Proofs.Ytgdlfihiheeniaa
open Go.RowKit

theorem bv_wrap (m : Nat) : bv (UInt8.ofNat (m % 128 + 128)) = .int .u8 ((m : Int) % 128 + 128) := bv_hi m

set_option maxRecDepth 20000 in
theorem refnum_low (w : World) (m f : Nat) (hlt : m < 128) :
    Calls Try.prog 25 #[.int .u64 (m : Int)] w fun e w' => e = .returned (txt (Wire.numF (f + 1) m)) ∧ Below w.heap.size w w' := by
  have HF := Lib.hid (numF_last f m hlt)
  have hcv := run_string_bytes _ 1 (BRow.one w (UInt8.ofNat m) _ 5 (bv_lo m hlt))
  simp only [List.length_singleton] at hcv
  go_enter Try.func25, Try.ntmps25
  go_wp2_with fail
  go_ret
  rw [HF.out]
  exact ⟨rfl, (Below.refl _ _).alloc (Nat.le_refl _) _⟩

set_option maxRecDepth 20000 in
set_option maxHeartbeats 1000000 in
theorem refnum_any (f : Nat) : ∀ (w : World) (m : Nat), f ≤ 9 → m < two64 → Fits m (f + 1) →
    Calls Try.prog 25 #[.int .u64 (m : Int)] w fun e w' => e = .returned (txt (Wire.numF (f + 1) m)) ∧ Below w.heap.size w w' := by
  induction f with
  | zero =>
    intro w m _ hm hF
    exact refnum_low w m 0 (by have := hF.lt; simpa using this)
  | succ f ih =>
    intro w m hf hm hF
    have hnl := Wire.numF_length (f + 1) (m / 128)
    by_cases hlt : m < 128
    · exact refnum_low w m _ hlt
    · have HIH := Lib.hid ih
      have HQ := Lib.hid (u64_quo128 m hm)
      have HN := Lib.hid (numF_step (f + 1) m (by omega))
      have HD : Fits (m / 128) (f + 1) := ⟨by
        have := hF.lt
        rw [Nat.pow_succ] at this
        exact Nat.div_lt_of_lt_mul (by rw [Nat.mul_comm]; exact this)⟩
      have HM : Hid (m / 128 < two64) := Nat.lt_of_le_of_lt (Nat.div_le_self _ _) hm
      have HB := Lib.hid (bv_hi m)
      clear ih hF hm
      go_enter Try.func25, Try.ntmps25
      go_wp2_with fail
      apply wp_region_rel (fun w' => Below w.heap.size w w') (fun a b => Below a.heap.size a b) (fun i x w => match i with
          | 0 => x = .int .u64 m
          | 1 => x = .int .u64 ((m : Int) % 128)
          | 2 => x = .int .u8 ((m : Int) % 128)
          | 3 => x = .int .u8 ((m : Int) % 128 + 128)
          | 4 => ∃ A, x = .slice A 1 1 ∧ BRow w A [UInt8.ofNat (m % 128 + 128)]
          | 5 => x = txt [UInt8.ofNat (m % 128 + 128)]
          | 6 => x = .int .u64 m
          | 7 => x = .int .u64 ((m / 128 : Nat) : Int)
          | 8 => x = txt (Wire.numF (f + 1) (m / 128))
          | 9 => x = txt (Wire.numF (f + 1 + 1) m)
          | 10 => x = txt (Wire.numF (f + 1 + 1) m)
          | _ => True)
      case hG => intro v; simp only [regFrame, List.zipIdx_cons, List.zipIdx_nil, List.foldl_cons, List.foldl_nil, Act.put, List.setIfInBounds_toArray, List.set_cons_zero, List.set_cons_succ, Nat.reduceAdd]; rfl
      case hm => kernel_rfl
      case honce => rfl
      case hlow => kernel_rfl
      case hInv => exact fun _ _ h h' => h.trans (h'.mono h.size)
      case hR =>
        intro i x w1 w2 _ hb h
        split at h <;> first | exact h | (obtain ⟨A, rfl, h⟩ := h; exact ⟨A, rfl, h.below hb⟩)
      case h0 => exact (Below.refl _ _).drew
      case hstep =>
        refine ⟨?_, ?_, ?_, ?_, ?_, ?_, ?_, ?_, ?_, ?_, ?_, trivial⟩ <;> intro v w1 hI hd _ <;> simp only [Deps, Region.binds, ↓reduceIte] at hd
        · exact opDoes_move _ rfl rfl ⟨Below.refl _ _, rfl⟩
        · obtain ⟨h0, _⟩ := hd
          refine opDoes_run rfl (x := .int .u64 ((m : Int) % 128)) ?_ ⟨Below.refl _ _, rfl⟩
          go_simp
          exact Int.tmod_eq_emod_of_nonneg (by omega)
        · obtain ⟨h0, _⟩ := hd
          refine opDoes_run rfl (x := .int .u8 ((m : Int) % 128)) ?_ ⟨Below.refl _ _, rfl⟩
          go_simp
          exact IntWalk.u8_in _ (by omega)
        · obtain ⟨h0, _⟩ := hd
          refine opDoes_run rfl (x := .int .u8 ((m : Int) % 128 + 128)) ?_ ⟨Below.refl _ _, rfl⟩
          go_simp
          exact IntWalk.u8_in _ (by omega)
        · obtain ⟨h0, _⟩ := hd
          refine opDoes_run rfl (x := .slice (some ⟨w1.heap.size, 0, none⟩) 1 1) (w' := w1.alloc (.cells #[.int .u8 ((m : Int) % 128 + 128)] 5)) ?_ ⟨(Below.refl _ _).alloc (Nat.le_refl _) _, _, rfl, BRow.one w1 _ _ _ HB.out⟩
          go_simp
        · obtain ⟨⟨A, h0, hr⟩, _⟩ := hd
          have hcv := run_string_bytes w1 1 hr
          simp only [List.length_singleton] at hcv
          refine opDoes_run rfl (x := txt [UInt8.ofNat (m % 128 + 128)]) ?_ ⟨Below.refl _ _, rfl⟩
          go_simp
        · exact opDoes_move _ rfl rfl ⟨Below.refl _ _, rfl⟩
        · obtain ⟨h0, _⟩ := hd
          refine opDoes_run rfl (x := .int .u64 ((m / 128 : Nat) : Int)) ?_ ⟨Below.refl _ _, rfl⟩
          rw [← HQ.out]
          go_simp
        · obtain ⟨h0, _⟩ := hd
          refine opDoes_call _ _ _ #[.int .u64 ((m / 128 : Nat) : Int)] rfl rfl (by go_simp) (Try.call25 _ _) ?_
          exact (HIH.out w1 _ (by omega) HM.out HD).mono fun e w2 ⟨he, hb⟩ => ⟨_, he, hb, rfl⟩
        · obtain ⟨h0, h1, _⟩ := hd
          refine opDoes_run rfl (x := txt (Wire.numF (f + 1 + 1) m)) ?_ ⟨Below.refl _ _, rfl⟩
          rw [HN.out]
          unfold txt at h0 h1 ⊢
          go_simp
          rw [if_neg (by omega)]
          congr 3
        · obtain ⟨h0, _⟩ := hd
          refine opDoes_assign _ rfl rfl ⟨Below.refl _ _, ?_⟩
          go_simp
      case hend =>
        intro v w4 hI h
        simp only [AllOps, Nat.zero_add, Nat.reduceAdd, and_true] at h
        rw [h.2.2.2.2.2.2.2.2.2.2]
        clear h
        go_wp2_with fail
        go_ret
        exact ⟨rfl, hI⟩

theorem txt_add (a b : List UInt8) : ByteArray.mk a.toArray ++ ByteArray.mk b.toArray = ByteArray.mk (a ++ b).toArray := by
  apply ByteArray.ext
  simp
theorem refnum_all (w : World) (n : Nat) (h : n < two64) :
    Calls Try.prog 25 #[.int .u64 (n : Int)] w fun e w' => e = .returned (txt (Wire.num n)) ∧ Below w.heap.size w w' :=
  refnum_any 9 w n (Nat.le_refl _) h ⟨Nat.lt_of_lt_of_le h (by decide)⟩

set_option maxRecDepth 20000 in
set_option maxHeartbeats 1000000 in
theorem reftext_any (w : World) (l : List UInt8) (h : l.length ≤ 1000000) :
    Calls Try.prog 31 #[txt l] w fun e w' => e = .returned (txt (Wire.text l)) ∧ Below w.heap.size w w' := by
  have h10 := (Wire.num_length l.length).2
  have HN := Lib.hid (fun w1 : World => refnum_all w1 l.length (by rw [two64_eq]; omega))
  have HT : Hid (Wire.text l = Wire.num l.length ++ l) := rfl
  generalize Wire.num l.length = p at h10 HN HT
  unfold txt
  go_enter Try.func31, Try.ntmps31
  go_wp2_with fail
  refine (HN.out w).mono ?_
  rintro e w1 ⟨rfl, hb⟩
  unfold txt
  go_wp2_with fail
  go_ret
  rw [HT.out, ← txt_add]
  exact ⟨rfl, hb⟩

set_option maxRecDepth 20000 in
set_option maxHeartbeats 1000000 in
theorem refint_any (w : World) (n : Int) (h1 : -9223372036854775808 ≤ n) (h2 : n ≤ 9223372036854775807) :
    Calls Try.prog 40 #[.int .i64 n] w fun e w' => e = .returned (txt (Wire.num (Wire.ofInt n))) ∧ Below w.heap.size w w' := by
  have hlt := Wire.ofInt_lt n h1 h2
  by_cases h : n < 0
  · have he : Wire.ofInt n = (-(n + 1)).toNat * 2 + 1 := by unfold Wire.ofInt; rw [if_pos h]
    have h3 : ((Wire.ofInt n : Nat) : Int) = -(n + 1) + -(n + 1) + 1 := by rw [he]; omega
    generalize Wire.ofInt n = q at hlt h3
    have H3 := Lib.hid h3
    have HL := Lib.hid hlt
    clear h3 hlt he
    go_enter Try.func40, Try.ntmps40
    go_wp2_with fail
    rw [← H3.out]
    refine (refnum_all w q HL.out).mono ?_
    rintro e w1 ⟨rfl, hb1⟩
    go_wp2_with fail
    go_ret
    exact ⟨rfl, hb1⟩
  · have he : Wire.ofInt n = n.toNat * 2 := by unfold Wire.ofInt; rw [if_neg h]
    have h3 : ((Wire.ofInt n : Nat) : Int) = n + n := by rw [he]; omega
    generalize Wire.ofInt n = q at hlt h3
    have H3 := Lib.hid h3
    have HL := Lib.hid hlt
    clear h3 hlt he
    go_enter Try.func40, Try.ntmps40
    go_wp2_with fail
    rw [← H3.out]
    refine (refnum_all w q HL.out).mono ?_
    rintro e w1 ⟨rfl, hb1⟩
    go_wp2_with fail
    go_ret
    exact ⟨rfl, hb1⟩
end Go.Proofs.Ytgdlfihiheeniaa
