/-
  Texts of a proof, one behind the other (each with its own head).
-/
import Derived.Test.YthbanhedjfpmaaaPartBfdnbflfe
import Derived.Laws.CopyOwn
import Derived.Deep.Slices
import Derived.Deep.SlicePairs
import Derived.OpenShut
import Derived.ChangeSlices
section
/-
  The contract of the journal's 'right': what a block says as a head.
-/
namespace Go.Proofs.Ythbanhedjfpmaaa
set_option linter.unusedSimpArgs false
set_option linter.unusedVariables false
open Go.RowKit

theorem brow_cut {w : World} {b o : Nat} {l : List UInt8} (h : BRow w (some ⟨b, o, none⟩) l) (i n : Nat) : BRow w (some ⟨b, o + i, none⟩) (Wal.cut l i n) := by
  have := (h.drop i).take n
  simpa [Wal.cut, Addr.add_lit] using this
theorem cv_any {w : World} {A : Option Addr} {l : List UInt8} {n c : Nat} (h : BRow w A l) (hn : l.length = n) : (convert 33 9 (.slice A n c)).run Try.prog w = .ok (.string ⟨l.toArray⟩) w := by
  subst hn
  exact run_string_bytes w c h
set_option maxRecDepth 20000 in
set_option maxHeartbeats 2000000 in
theorem right_any (w : World) (A : Option Addr) (c : Nat) (b : List UInt8) (hr : BRow w A b) (hb : b.length = 512) (hc : 512 ≤ c) (room : Nat) (hroom : room ≤ 1000000000) :
    Calls Try.prog 62 #[.slice A 512 c, .int .i64 room] w fun e w' => e = .returned (.tuple #[.int .u64 ((Wal.right b room).1 : Nat), .int .i64 ((Wal.right b room).2 : Nat)]) ∧ Below w.heap.size w w' := by
  obtain ⟨g, o, rfl, hlt⟩ := hr.lt (by omega)
  have HB := Lib.hid hb
  have h8 := brow_cut hr 8 8
  have h16 := brow_cut hr 16 8
  have l8 : (Wal.cut b 8 8).length = 8 := Wal.cut_length (by omega)
  have l16 : (Wal.cut b 16 8).length = 8 := Wal.cut_length (by omega)
  have HL8 : Hid (∀ c, Calls Try.prog 74 #[.slice (some ⟨g, o + 8, none⟩) 8 c] w.drew fun e w' => e = .returned (.int .u64 (Wal.lo (Wal.cut b 8 8) : Nat)) ∧ w.drew = w') := fun c => low_any w.drew _ c _ h8.drew l8
  have HL16 : Hid (∀ c, Calls Try.prog 74 #[.slice (some ⟨g, o + 16, none⟩) 8 c] w.drew fun e w' => e = .returned (.int .u64 (Wal.lo (Wal.cut b 16 8) : Nat)) ∧ w.drew = w') := fun c => low_any w.drew _ c _ h16.drew l16
  have hs := Lib.hid (Wal.lo8_lt _ l8)
  have hn := Lib.hid (Wal.lo8_lt _ l16)
  have HR := Lib.hid hr
  clear h8 h16 l8 l16 hb hr
  have HD : Hid (Wal.right b room = if b.take 24 = Wal.half (Wal.lo (Wal.cut b 8 8)) (Wal.lo (Wal.cut b 16 8)) ∧ Wal.cut b 24 24 = Wal.half (Wal.lo (Wal.cut b 16 8)) (Wal.lo (Wal.cut b 8 8)) ∧ 1 ≤ Wal.lo (Wal.cut b 8 8) ∧ Wal.lo (Wal.cut b 8 8) ≤ Wal.last62 ∧ Wal.lo (Wal.cut b 16 8) ≤ room
    then (Wal.lo (Wal.cut b 8 8), Wal.lo (Wal.cut b 16 8)) else (0, 0)) := rfl
  generalize Wal.lo (Wal.cut b 8 8) = s at HL8 hs HD
  generalize Wal.lo (Wal.cut b 16 8) = n at HL16 hn HD
  go_enter Try.func62, Try.ntmps62
  go_wp2_with fail
  refine wp_region_plan (.take 0 (.take 1 (.take 3 (.take 4 (.run 2 [3, 4] (.run 5 [] (.take 6 (.take 7 .fin)))))))) (by kernel_rfl) (by kernel_rfl) (by kernel_rfl) (by kernel_rfl) ?_
  simp only [walk, again, sel, List.getElem?_toArray, List.getElem?_cons_zero, List.getElem?_cons_succ]
  repeat ((with_reducible intro Z hZ); go_wp2_with (fail))
  refine (HL8.out _).mono ?_
  rintro e w1 ⟨rfl, rfl⟩
  go_wp2_with fail
  repeat ((with_reducible intro Z hZ); go_wp2_with (fail))
  refine (HL16.out _).mono ?_
  rintro e w1 ⟨rfl, rfl⟩
  go_wp2_with fail
  repeat ((with_reducible intro Z hZ); go_wp2_with (fail))
  clear HL8 HL16
  go_wp2_with fail
  have hcv1 := cv_any (c := c) ((HR.out.take 24).drew.drew) (n := 24) (by simp [HB.out])
  rcases Classical.em (b.take 24 = Wal.half s n) with h1 | h1
  · have hn1 : (b.take 24 == Wal.half s n) = true := by simpa using h1
    have HE1 := Lib.hid h1
    clear h1
    refine wp_region_plan (.take 0 (.take 1 (.take 2 (.take 3 (.take 4 (.run 5 [0, 1, 2] (.take 6 (.take 7 (.take 8 (.take 9 (.take 10 (.take 11 (.take 12 (.take 13 (.run 14 [9, 10, 11] (.take 15 (.take 16 (.take 17 (.take 18 (.take 19 (.take 20 (.take 21 (.take 22 (.take 23 (.take 24 (.take 25 (.take 26 (.take 27 (.take 28 (.take 29 (.take 30 (.take 31 .fin)))))))))))))))))))))))))))))))) (by kernel_rfl) (by kernel_rfl) (by kernel_rfl) (by kernel_rfl) ?_
    simp only [walk, again, sel, List.getElem?_toArray, List.getElem?_cons_zero, List.getElem?_cons_succ]
    repeat ((with_reducible intro Z hZ); go_wp2_with (fail))
    refine (half_any _ s n hs.out hn.out).mono ?_
    rintro e w2 ⟨A2, c2, rfl, ho2, hb2⟩
    have hcv2 := run_string_bytes w2 c2 ho2.row
    unfold txt at hcv2
    have hcv1 := cv_any (c := c) (((HR.out.take 24).drew.drew).below hb2) (n := 24) (by simp [HB.out])
    have hcv3 := cv_any (c := c - 24) (((brow_cut HR.out 24 24).drew.drew).below hb2) (n := 24) (Wal.cut_length (by rw [HB.out]; omega))
    have HB2 := Lib.hid (((Below.refl _ w).drewR.drewR).trans hb2)
    clear ho2 hb2
    go_wp2_with fail
    repeat ((with_reducible intro Z hZ); go_wp2_with (fail))
    refine (half_any _ n s hn.out hs.out).mono ?_
    rintro e w3 ⟨A3, c3, rfl, ho3, hb3⟩
    have hcv4 := run_string_bytes w3 c3 ho3.row
    unfold txt at hcv4
    have HB3 := Lib.hid (HB2.out.trans (hb3.mono HB2.out.size))
    have hcv3 := cv_any (c := c - 24) ((brow_cut HR.out 24 24).below HB3.out) (n := 24) (Wal.cut_length (by rw [HB.out]; omega))
    clear ho3 hb3
    rcases Classical.em (Wal.cut b 24 24 = Wal.half n s) with h2 | h2
    · have hn2 : (Wal.cut b 24 24 == Wal.half n s) = true := by simpa using h2
      rcases Classical.em (1 ≤ s) with h3 | h3
      · have hq3 : ¬ (s : Int) < 1 := by omega
        rcases Classical.em (s ≤ Wal.last62) with h4 | h4
        · have hq4 : ¬ (4611686018427387904 : Int) < (s : Int) := by unfold Wal.last62 at h4; omega
          rcases Classical.em (n ≤ room) with h5 | h5
          · have HE : Hid (Wal.right b room = (s, n)) := by show _ = _; rw [HD.out, if_pos ⟨HE1.out, h2, h3, h4, h5⟩]
            have hq5 : ¬ (room : Int) < (n : Int) := by omega
            have hn6 : (n : Int) ≤ 1000000000 := by omega
            clear HD h2 h3 h4 h5
            go_wp2_with fail
            repeat ((with_reducible intro Z hZ); go_wp2_with (fail))
            go_wp2_with fail
            go_ret2
            exact ⟨by rw [HE.out]; rfl, HB3.out⟩
          · have HE : Hid (Wal.right b room = (0, 0)) := by show _ = _; rw [HD.out, if_neg (fun h => h5 h.2.2.2.2)]
            have hq5 : (room : Int) < (n : Int) := by omega
            clear HD h2 h3 h4 h5
            go_wp2_with fail
            repeat ((with_reducible intro Z hZ); go_wp2_with (fail))
            go_wp2_with fail
            go_ret2
            exact ⟨by rw [HE.out]; rfl, HB3.out⟩
        · have HE : Hid (Wal.right b room = (0, 0)) := by show _ = _; rw [HD.out, if_neg (fun h => h4 h.2.2.2.1)]
          have hq4 : (4611686018427387904 : Int) < (s : Int) := by unfold Wal.last62 at h4; omega
          clear HD h2 h3 h4
          go_wp2_with fail
          repeat ((with_reducible intro Z hZ); go_wp2_with (fail))
          go_wp2_with fail
          go_ret2
          exact ⟨by rw [HE.out]; rfl, HB3.out⟩
      · have HE : Hid (Wal.right b room = (0, 0)) := by show _ = _; rw [HD.out, if_neg (fun h => h3 h.2.2.1)]
        have hq3 : (s : Int) < 1 := by omega
        clear HD h2 h3
        go_wp2_with fail
        repeat ((with_reducible intro Z hZ); go_wp2_with (fail))
        go_wp2_with fail
        go_ret2
        exact ⟨by rw [HE.out]; rfl, HB3.out⟩
    · have hn2 : (Wal.cut b 24 24 == Wal.half n s) = false := by simpa using h2
      have HE : Hid (Wal.right b room = (0, 0)) := by show _ = _; rw [HD.out, if_neg (fun h => h2 h.2.1)]
      clear HD h2
      go_wp2_with fail
      repeat ((with_reducible intro Z hZ); go_wp2_with (fail))
      go_wp2_with fail
      go_ret2
      exact ⟨by rw [HE.out]; rfl, HB3.out⟩
  · have HE : Hid (Wal.right b room = (0, 0)) := by show _ = _; rw [HD.out, if_neg (fun h => h1 h.1)]
    have hn1 : (b.take 24 == Wal.half s n) = false := by simpa using h1
    clear HD
    refine wp_region_plan (.take 0 (.take 1 (.take 2 (.take 3 (.take 4 (.run 5 [0, 1, 2] (.take 6 (.take 7 (.take 8 (.take 9 (.take 10 (.take 11 (.take 12 (.take 13 (.run 14 [9, 10, 11] (.take 15 (.take 16 (.take 17 (.take 18 (.take 19 (.take 20 (.take 21 (.take 22 (.take 23 (.take 24 (.take 25 (.take 26 (.take 27 (.take 28 (.take 29 (.take 30 (.take 31 .fin)))))))))))))))))))))))))))))))) (by kernel_rfl) (by kernel_rfl) (by kernel_rfl) (by kernel_rfl) ?_
    simp only [walk, again, sel, List.getElem?_toArray, List.getElem?_cons_zero, List.getElem?_cons_succ]
    repeat ((with_reducible intro Z hZ); go_wp2_with (fail))
    refine (half_any _ s n hs.out hn.out).mono ?_
    rintro e w2 ⟨A2, c2, rfl, ho2, hb2⟩
    have hcv2 := run_string_bytes w2 c2 ho2.row
    unfold txt at hcv2
    have hcv1 := cv_any (c := c) (((HR.out.take 24).drew.drew).below hb2) (n := 24) (by simp [HB.out])
    have HB2 := Lib.hid hb2
    clear ho2 hb2
    go_wp2_with fail
    repeat ((with_reducible intro Z hZ); go_wp2_with (fail))
    go_wp2_with fail
    go_ret2
    exact ⟨by rw [HE.out]; rfl, ((Below.refl _ w).drewR.drewR).trans HB2.out⟩
end Go.Proofs.Ythbanhedjfpmaaa
end

section
/-
  The contracts of package crc, of its reference, and of what its statements call.
-/
namespace Go.Proofs.Ythbanhedjfpmaaa
set_option linter.unusedSimpArgs false
set_option linter.unusedVariables false
open Go.RowKit

theorem crc_known : Crc.sum [49, 50, 51, 52, 53, 54, 55, 56, 57] = 3421780262 := by decide +kernel

theorem txt_size (l : List UInt8) : (ByteArray.mk l.toArray).size = l.length := by simp [ByteArray.size]
theorem ref_ne {l : List UInt8} {k s : Nat} (hk : k / 8 < (ByteArray.mk l.toArray).size) (hk' : k / 8 < l.length)
    (h : ((s : Int) % 2 != ((({ data := l.toArray } : ByteArray)[k / 8]'hk).toNat : Int) / 2 ^ (k % 8) % 2) = true) : ¬ s % 2 = l[k / 8].toNat / 2 ^ (k % 8) % 2 := by
  have h1 : ((s : Int) % 2 != ((l[k / 8].toNat : Int) / 2 ^ (k % 8)) % 2) = true := h
  rw [bne_iff_ne] at h1
  intro e
  apply h1
  have e2 : (((l[k / 8].toNat / 2 ^ (k % 8) % 2 : Nat)) : Int) = (l[k / 8].toNat : Int) / 2 ^ (k % 8) % 2 := by simp
  rw [← e2, ← e]; simp
theorem ref_eq {l : List UInt8} {k s : Nat} (hk : k / 8 < (ByteArray.mk l.toArray).size) (hk' : k / 8 < l.length)
    (h : ((s : Int) % 2 != ((({ data := l.toArray } : ByteArray)[k / 8]'hk).toNat : Int) / 2 ^ (k % 8) % 2) = false) : s % 2 = l[k / 8].toNat / 2 ^ (k % 8) % 2 := by
  have h1 : ((s : Int) % 2 != ((l[k / 8].toNat : Int) / 2 ^ (k % 8)) % 2) = false := h
  rw [bne_eq_false_iff_eq] at h1
  have e2 : (((l[k / 8].toNat / 2 ^ (k % 8) % 2 : Nat)) : Int) = (l[k / 8].toNat : Int) / 2 ^ (k % 8) % 2 := by simp
  rw [← e2] at h1
  omega

set_option maxHeartbeats 800000 in
theorem refsum_any (w : World) (l : List UInt8) (hl : l.length ≤ 1000000) :
    Calls Try.prog 70 #[txt l] w fun e w' => e = .returned (.int .u32 (Crc.sum l : Nat)) ∧ w = w' := by
  go_enter Try.func70, Try.ntmps70
  unfold txt
  go_wp2_with fail
  go_loop [3, 4] (fun s i => ∃ k : Nat, k ≤ 8 * l.length ∧ i = .int .i64 k ∧ s = .int .u32 (Crc.reg l k : Nat)) (fun _ i => 8 * l.length - (intOf i).toNat)
  case atStart => exact ⟨0, Nat.zero_le _, rfl, by rw [Crc.reg_zero]; rfl⟩
  case round =>
    obtain ⟨k, hk, rfl, rfl⟩ := hrel
    have hs := Crc.reg_lt l k
    by_cases hlt : k < 8 * l.length
    · have hk8 : k / 8 < l.length := by omega
      have HS := Lib.hid (Crc.reg_step l k hk8)
      generalize Crc.reg l k = s at hs HS
      go_wp2
      · rename_i h
        go_round
        case rel =>
          refine ⟨k + 1, by omega, by go_num, ?_⟩
          have h' := ref_ne (by rw [txt_size]; exact hk8) hk8 h
          rw [HS.out, Crc.bit', if_neg h', show (s : Int) / 2 = ((s / 2 : Nat) : Int) from rfl, show (3988292384 : Int) = ((3988292384 : Nat) : Int) from rfl, u32_xor_nat _ _ (by omega) (by omega)]
        case measure => simp [intOf]; omega
      · rename_i h
        go_round
        case rel =>
          refine ⟨k + 1, by omega, by go_num, ?_⟩
          have h' := ref_eq (by rw [txt_size]; exact hk8) hk8 h
          rw [HS.out, Crc.bit', if_pos h']
          rfl
        case measure => simp [intOf]; omega
    · obtain rfl : k = 8 * l.length := by omega
      have HE := Lib.hid (Crc.reg_end l)
      generalize Crc.reg l (8 * l.length) = s at hs HE
      go_wp2
      go_ret
      exact ⟨by rw [← HE.out]; exact congrArg (fun x => Ending.returned (.int .u32 x)) (by omega), rfl⟩

theorem le4_take (s k : Nat) (hk : k < 4) : (Crc.le4 s).take (k + 1) = (Crc.le4 s).take k ++ [UInt8.ofNat (s / 256 ^ k)] := by
  match k, hk with
  | 0, _ => simp [Crc.le4]
  | 1, _ => simp [Crc.le4]
  | 2, _ => simp [Crc.le4]
  | 3, _ => simp [Crc.le4]
theorem byte_of (s : Nat) : bv (UInt8.ofNat s) = .int .u8 ((s : Int) % 256) := by
  simp [bv]

set_option maxHeartbeats 800000 in
theorem refseal_any (w : World) (l : List UInt8) (hl : l.length ≤ 1000000) :
    Calls Try.prog 58 #[txt l] w fun e w' => e = .returned (txt (Crc.sealed l)) ∧ Below w.heap.size w w' := by
  go_enter Try.func58, Try.ntmps58
  go_wp2_with fail
  refine (refsum_any _ _ hl).mono ?_
  rintro e w' ⟨rfl, rfl⟩
  have HS : Hid (Crc.sealed l = l ++ Crc.le4 (Crc.sum l)) := rfl
  have hS := Crc.sum_lt l
  generalize Crc.sum l = S at hS HS
  have hrow : BRow (w.alloc (.cells #[.int .u8 ((S : Int) % 256), .int .u8 ((S : Int) / 256 % 256), .int .u8 ((S : Int) / 65536 % 256), .int .u8 ((S : Int) / 16777216)] 5)) (some ⟨w.heap.size, 0, none⟩) (Crc.le4 S) := by
    have := Row.new w ((Crc.le4 S).map bv) 5
    have e : (S : Int) / 16777216 % 256 = (S : Int) / 16777216 := by omega
    simpa [Crc.le4, byte_of, BRow, e] using this
  have hcv := run_string_bytes _ 4 hrow
  have e4 : (Crc.le4 S).length = 4 := rfl
  rw [e4] at hcv
  have hlen : l.length + (Crc.le4 S).length ≤ 9223372036854775807 := by omega
  generalize Crc.le4 S = z at hcv HS hlen
  clear hrow e4
  unfold txt at hcv
  unfold txt
  go_wp2_with fail
  go_ret
  refine ⟨?_, (Below.refl _ _).alloc (Nat.le_refl _) _⟩
  rw [HS.out]
  exact congrArg (fun x => Ending.returned (.string x)) (ByteArray.mk_append_mk l z)

end Go.Proofs.Ythbanhedjfpmaaa
end

section
/-
  The contracts of wire.Num, wire.Int, wire.Bool, wire.Text.
-/
namespace Go.Proofs.Ythbanhedjfpmaaa
set_option linter.unusedSimpArgs false
set_option linter.unusedVariables false
open Go.RowKit

/-- The number fits f digits of seven bits. -/
structure Fits (m f : Nat) : Prop where
  lt : m < 128 ^ f
theorem numF_step (f m : Nat) (h : 128 ≤ m) : Wire.numF (f + 1) m = UInt8.ofNat (m % 128 + 128) :: Wire.numF f (m / 128) := by
  rw [Wire.numF, if_neg (by omega)]
theorem numF_last (f m : Nat) (h : m < 128) : Wire.numF (f + 1) m = [UInt8.ofNat m] := by
  rw [Wire.numF, if_pos h]
theorem bv_hi (m : Nat) : bv (UInt8.ofNat (m % 128 + 128)) = .int .u8 ((m : Int) % 128 + 128) := by
  simp [bv]; omega
theorem bv_lo (m : Nat) (h : m < 128) : bv (UInt8.ofNat m) = .int .u8 (m : Int) := by
  simp [bv]; omega

theorem u64_quo128 (m : Nat) (h : m < two64) : IntKind.u64.wrap ((m : Int) / 128) = ((m / 128 : Nat) : Int) := by
  rw [two64_eq] at h
  rw [IntWalk.u64_in _ (by omega)]
  omega

set_option maxRecDepth 20000 in
set_option maxHeartbeats 800000 in
theorem wnum_any (w : World) (n : Nat) (hn : n < two64) : Calls Try.prog 82 #[.int .u64 (n : Int)] w (RetB w (Wire.num n)) := by
  have HN0 := Lib.hid hn
  clear hn
  go_enter Try.func82, Try.ntmps82
  go_wp2_with fail
  go_loopw [0, 3] (fun nv bv wr => ∃ (m f : Nat) (A : Option Addr) (c : Nat) (pre : List UInt8), nv = .int .u64 (m : Int) ∧ bv = .slice A pre.length c ∧ Hid (m < two64) ∧ Fits m (f + 1) ∧ pre.length + f = 9 ∧
    BOwn wr w.heap.size A c pre ∧ Below w.heap.size w wr ∧ Hid (Wire.num n = pre ++ Wire.numF (f + 1) m)) (fun nv _ _ => (intOf nv).toNat)
  case atStart => exact ⟨n, 9, none, 0, [], rfl, rfl, HN0, ⟨Nat.lt_of_lt_of_le HN0.out (by decide)⟩, rfl, BOwn.nil _ _, Below.refl _ _, rfl⟩
  case round =>
    obtain ⟨m, f, A, c, pre, rfl, rfl, HB, HM, hf, ho, hB, HN⟩ := hrel
    have hs := hB.size
    by_cases h : 128 ≤ m
    · have HQ := Lib.hid (u64_quo128 m HB.out)
      have hd : m / 128 < 128 ^ f := by
        have := HM.lt
        rw [Nat.pow_succ] at this
        exact Nat.div_lt_of_lt_mul (by rw [Nat.mul_comm]; exact this)
      obtain ⟨f, rfl⟩ : ∃ g, f = g + 1 := by
        cases f with
        | zero => simp at hd; omega
        | succ g => exact ⟨g, rfl⟩
      have HD : Fits (m / 128) (f + 1) := ⟨hd⟩
      clear hd
      go_wp2_with (at_builtin; refine wpList_append_bytes rfl (.tmp 6) (.tmp 11) rfl _ rfl (ho.alloc _) rfl _ rfl (BRow.one wr (UInt8.ofNat (m % 128 + 128)) _ _ (bv_hi m)) rfl (by simp; omega) (by simp; omega) ?_; intro A3 c3 w3 ho3 hb3 _ _)
      go_roundw
      case rel =>
        refine ⟨m / 128, f, A3, c3, pre ++ [UInt8.ofNat (m % 128 + 128)], by rw [HQ.out], by simp, Nat.lt_of_le_of_lt (Nat.div_le_self _ _) HB.out, HD, by simp; omega, ho3, (hB.alloc hs _).trans hb3, ?_⟩
        show _ = _
        rw [HN.out, numF_step _ _ h, List.append_assoc]
        rfl
      case measure => rw [HQ.out]; simp [intOf]; omega
    · have hl := Lib.hid (numF_last f m (by omega))
      go_wp2_with (at_builtin; refine wpList_append_bytes rfl (.tmp 15) (.tmp 18) rfl _ rfl (ho.alloc _) rfl _ rfl (BRow.one wr (UInt8.ofNat m) _ _ (bv_lo m (by omega))) rfl (by simp; omega) (by simp; omega) ?_; intro A3 c3 w3 ho3 hb3 _ _)
      go_ret
      refine ⟨A3, c3, ?_, ?_, (hB.alloc hs _).trans hb3⟩
      · rw [HN.out, hl.out]; simp
      · rw [HN.out, hl.out]; exact ho3

end Go.Proofs.Ythbanhedjfpmaaa
end

section
/-
  The contract of the journal's 'frame': a record as it lies on the disk.
-/
namespace Go.Proofs.Ythbanhedjfpmaaa
set_option linter.unusedSimpArgs false
set_option linter.unusedVariables false
open Go.RowKit

set_option maxRecDepth 20000 in
set_option maxHeartbeats 1000000 in
theorem frame_any (w : World) (A : Option Addr) (c : Nat) (l : List UInt8) (hr : BRow w A l) (hl : l.length ≤ 1000000) : Calls Try.prog 66 #[.slice A l.length c] w (RetB w (Wal.frame l)) := by
  have HR := Lib.hid hr
  clear hr
  have HNL : Hid (l.length < two64) := by show _ < two64; rw [two64_eq]; omega
  go_enter Try.func66, Try.ntmps66
  go_wp2_with fail
  refine (sum_any _ _ _ [⟨A, c, l⟩] (Row.new _ _ _) ?_ (by simp)).mono ?_
  · intro p hp
    simp only [List.mem_singleton] at hp
    subst hp
    exact ⟨HR.out.alloc _, by simp; omega⟩
  rintro e w1 ⟨rfl, rfl⟩
  simp only [List.flatMap_cons, List.flatMap_nil, List.append_nil]
  have hS := Crc.sum_lt l
  have HF : Hid (Wal.frame l = Wire.num l.length ++ (Crc.le4 (Crc.sum l) ++ l)) := rfl
  generalize Crc.sum l = S at hS HF
  have HB0 := Lib.hid (Below.alloc1 w)
  go_wp2_with fail
  refine (wnum_any _ l.length HNL.out).mono ?_
  rintro e w2 ⟨A2, c2, rfl, ho2, hb2⟩
  have hnl := (Wire.num_length l.length).2
  have H2 : Hid (BOwn w2 w.heap.size A2 c2 (Wire.num l.length ++ (Crc.le4 S).take 0) ∧ Below w.heap.size w w2) := ⟨by simpa using ho2.mono (HB0.out _).size, (HB0.out _).trans (hb2.mono (HB0.out _).size)⟩
  clear ho2 hb2 HB0
  generalize Wire.num l.length = N at HF hnl H2 ⊢
  go_wp2_with fail
  go_loopw [3, 4, 12] (fun s v i wr => ∃ (k : Nat) (A1 : Option Addr) (c1 : Nat), k ≤ 4 ∧ i = .int .i64 k ∧ s = .int .u32 (S / 256 ^ k : Nat) ∧ v = .slice A1 (N.length + k) c1 ∧
    Hid (BOwn wr w.heap.size A1 c1 (N ++ (Crc.le4 S).take k) ∧ Below w.heap.size w wr)) (fun _ _ i _ => 4 - (intOf i).toNat)
  case atStart => exact ⟨0, A2, c2, by omega, rfl, by simp, rfl, H2.out⟩
  case round =>
    obtain ⟨k, A3, c3, hk, rfl, rfl, rfl, HJ⟩ := hrel
    clear H2
    have hlen : (N ++ (Crc.le4 S).take k).length = N.length + k := by simp [Crc.le4]; omega
    have HL := Lib.hid hlen
    clear hlen
    by_cases hlt : k < 4
    · have HT := Lib.hid (le4_take S k hlt)
      have hp : S / 256 ^ k < 4294967296 := Nat.lt_of_le_of_lt (Nat.div_le_self _ _) hS
      have HD : Hid (S / 256 ^ (k + 1) = S / 256 ^ k / 256) := by
        show _ = _
        rw [Nat.pow_succ, Nat.div_div_eq_div_mul]
      generalize S / 256 ^ k = q at hp HT HD
      go_wp2_with (at_builtin; refine wpList_append_bytes rfl (.tmp 14) (.tmp 17) rfl _ rfl (HJ.out.1.alloc _) HL.out.symm _ rfl (BRow.one wr (UInt8.ofNat q) _ _ (byte_of q)) rfl (by rw [HL.out]; simp; omega) (by have := HJ.out.2.size; simp; omega) ?_; intro A5 c5 w5 ho5 hb5 _ _)
      go_roundw
      case rel =>
        refine ⟨k + 1, A5, c5, by omega, by go_num, by rw [HD.out]; rfl, ?_, ?_, ?_⟩
        · simp [Crc.le4]; omega
        · rw [HT.out, ← List.append_assoc]; exact ho5
        · exact (HJ.out.2.alloc (by have := HJ.out.2.size; omega) _).trans hb5
      case measure => simp [intOf]; omega
    · obtain rfl : k = 4 := by omega
      have hrx := HR.out.below HJ.out.2
      go_wp2_with (at_builtin; refine wpList_append_bytes rfl (.tmp 22) (.tmp 23) rfl _ rfl HJ.out.1 HL.out.symm _ rfl hrx rfl (by rw [HL.out]; omega) HJ.out.2.size ?_; intro A5 c5 w5 ho5 hb5 _ _)
      go_ret
      have e : Wal.frame l = N ++ (Crc.le4 S).take 4 ++ l := by rw [HF.out, List.append_assoc]; rfl
      rw [e]
      exact ⟨A5, c5, by simp [Crc.le4]; omega, ho5, HJ.out.2.trans hb5⟩
end Go.Proofs.Ythbanhedjfpmaaa
end

section
/-
  Cuts of slices: the slice is some slice that reads as it must; whether its address is kept (at its room's end) is nobody's business.
-/
namespace Go.Proofs.Ythbanhedjfpmaaa
set_option linter.unusedSimpArgs false
set_option linter.unusedVariables false
open Go.RowKit

theorem sizeOf_u8 (w : World) : (sizeOf 5).run Try.prog w = .ok 1 w := by
  obtain ⟨i, hi, hz, hs, hby⟩ := info_parts info8
  simp [sizeOf, typeInfo, hi, hs]
theorem elem_u8 : Try.prog.elem 33 = 5 := by kernel_rfl
theorem row_cutA {w : World} {A : Option Addr} {l : List UInt8} (h : BRow w A l) (c i n : Nat) (hn : i + n ≤ c) : BRow w (if c = i then A else A.map (·.add (i * 1))) ((l.drop i).take n) := by
  by_cases hc : c = i
  · obtain rfl : n = 0 := by omega
    rw [List.take_zero]
    exact BRow.nil
  · rw [if_neg hc, Nat.mul_one]
    exact (h.drop i).take n
/-- x[lo:hi] -/
theorem cut_lh {w0 : World} {A : Option Addr} {l : List UInt8} (h : BRow w0 A l) (len c : Nat) (lo hi : Int) (i n : Nat) (e1 : lo = (i : Int)) (e2 : hi = ((i + n : Nat) : Int)) (hc : i + n ≤ c) :
    ∃ As cs, (∀ w, (Instr.slice 33 (.slice A len c) (some (.int .i64 lo)) (some (.int .i64 hi)) none).run Try.prog w = .ok (.slice As n cs) w) ∧ BRow w0 As ((l.drop i).take n) ∧ n ≤ cs ∧ cs ≤ c ∧ (∀ a, As = some a → ∃ x, A = some x ∧ a.block = x.block) := by
  subst e1 e2
  refine ⟨if c = i then A else A.map (·.add (i * 1)), c - i, fun w => ?_, row_cutA h c i n hc, by omega, by omega, fun a ha => ?_⟩
  · rw [run_slice_lh (P := Try.prog) w 33 A len c (by rw [elem_u8]; exact Try.underlying33) .i64 .i64 i ((i + n : Nat) : Int) (by omega) (by omega) (by omega), elem_u8, sizeOf_u8]
    simp [sliced]
    omega
  · split at ha
    · exact ⟨a, ha, rfl⟩
    · cases A with
      | none => simp at ha
      | some x =>
        simp only [Option.map_some, Option.some.injEq] at ha
        refine ⟨x, rfl, ?_⟩
        rw [← ha]
        unfold Addr.add
        split <;> rfl
/-- x[lo:] -/
theorem cut_l {w0 : World} {A : Option Addr} {l : List UInt8} (h : BRow w0 A l) (c : Nat) (lo : Int) (i : Nat) (e1 : lo = (i : Int)) (hi : i ≤ l.length) (hc : l.length ≤ c) :
    ∃ As cs, (∀ w, (Instr.slice 33 (.slice A l.length c) (some (.int .i64 lo)) none none).run Try.prog w = .ok (.slice As (l.length - i) cs) w) ∧ BRow w0 As (l.drop i) ∧ l.length - i ≤ cs ∧ cs ≤ c ∧ (∀ a, As = some a → ∃ x, A = some x ∧ a.block = x.block) := by
  subst e1
  have hr := row_cutA h c i (l.length - i) (by omega)
  rw [List.take_of_length_le (by simp)] at hr
  refine ⟨if c = i then A else A.map (·.add (i * 1)), c - i, fun w => ?_, hr, by omega, by omega, fun a ha => ?_⟩
  · rw [run_slice_l (P := Try.prog) w 33 A l.length c (by rw [elem_u8]; exact Try.underlying33) .i64 i (by omega) (by omega), elem_u8, sizeOf_u8]
    simp [sliced]
  · split at ha
    · exact ⟨a, ha, rfl⟩
    · cases A with
      | none => simp at ha
      | some x =>
        simp only [Option.map_some, Option.some.injEq] at ha
        refine ⟨x, rfl, ?_⟩
        rw [← ha]
        unfold Addr.add
        split <;> rfl
/-- x[:hi] -/
theorem cut_h (A : Option Addr) (len c : Nat) (hi : Int) (n : Nat) (e : hi = (n : Int)) (hc : n ≤ c) (w : World) :
    (Instr.slice 33 (.slice A len c) none (some (.int .i64 hi)) none).run Try.prog w = .ok (.slice A n c) w := by
  subst e
  rw [run_slice_h (P := Try.prog) w 33 A len c (by rw [elem_u8]; exact Try.underlying33) .i64 n (by omega) (by omega), elem_u8, sizeOf_u8]
  simp only [sliced, Result.andThen_ok, Int.toNat_natCast, Nat.sub_zero, Nat.zero_mul]
  cases A with
  | none => simp
  | some a => simp [Addr.add]
end Go.Proofs.Ythbanhedjfpmaaa
end

section
/-
  The contracts of wire.Reader's methods, of a reader that is one.
-/
namespace Go.Proofs.Ythbanhedjfpmaaa
set_option linter.unusedSimpArgs false
set_option linter.unusedVariables false
open Go.RowKit

/-- Block g is a reader: what is left and the error. -/
def RD (w : World) (g : Nat) (r : Wire.RS) : Prop :=
  ∃ A c, w.heap[g]? = some (.cells #[.slice A r.l.length c, .int .i64 r.e] 145 (0, 0)) ∧ BRow w A r.l ∧ r.l.length ≤ c ∧ c ≤ 9223372036854775807
/-- What a method of a reader does: it answers v, leaves the reader r, and turns no other block. -/
def Did (w : World) (g : Nat) (v : Value) (r : Wire.RS) (e : Ending) (w' : World) : Prop := e = .returned v ∧ RD w' g r ∧ w.grownBy w' (some g)

section
variable {w w' : World} {g : Nat} {r : Wire.RS}
theorem RD.lt (h : RD w g r) : g < w.heap.size := by
  obtain ⟨A, c, hg, _⟩ := h
  exact (Array.getElem?_eq_some_iff.1 hg).1
theorem RD.below (h : RD w g r) (hb : Below w.heap.size w w') : RD w' g r := by
  have hlt := h.lt
  obtain ⟨A, c, hg, hr, h1, h2⟩ := h
  exact ⟨A, c, (hb.block g hlt).trans hg, hr.below hb, h1, h2⟩
theorem RD.drew (h : RD w g r) : RD w.drew g r := h
/-- The bytes lie in another block than the reader. -/
theorem row_ne {A A' : Option Addr} {n c : Nat} {e : Int} {t : TypeId} {l : List UInt8} (hg : w.heap[g]? = some (.cells #[.slice A' n c, .int .i64 e] t (0, 0))) (hr : BRow w A l) (hl : 0 < l.length) : ∀ a, A = some a → a.block ≠ g := by
  intro a ha hb
  obtain ⟨b, o, e1, _, hc⟩ := hr (by simpa using hl)
  rw [ha] at e1
  obtain rfl := Option.some.inj e1
  simp only at hb
  subst hb
  have := hc 0 (by simpa using hl)
  rw [cell_of_row w b (o + 0) _ t (0, 0) hg] at this
  match o, this with
  | 0, h => simp [bv] at h
  | 1, h => simp [bv] at h
  | o + 2, h => simp [bv] at h
theorem row_far {A A' : Option Addr} {n c : Nat} {e : Int} {t : TypeId} {l : List UInt8} (hg : w.heap[g]? = some (.cells #[.slice A' n c, .int .i64 e] t (0, 0))) (hr : BRow w A l) (i : Nat) (u : Value) : BRow (w.setCell ⟨g, i, none⟩ u) A l := by
  cases l with
  | nil => exact BRow.nil
  | cons x l => exact hr.far (row_ne hg hr (by simp)) u
theorem set_heap {cs : Array Value} {t : TypeId} (hg : w.heap[g]? = some (.cells cs t (0, 0))) (i : Nat) (u : Value) : (w.setCell ⟨g, i, none⟩ u).heap[g]? = some (.cells (cs.setIfInBounds i u) t (0, 0)) := heap_setCell_same w g i cs t u hg
theorem set_grown (w : World) (g i : Nat) (u : Value) : w.grownBy (w.setCell ⟨g, i, none⟩ u) (some g) :=
  ⟨rfl, rfl, rfl, by simp, fun k _ hk => heap_setCell_other w ⟨g, i, none⟩ k u (fun e => hk (by rw [e]))⟩
/-- The error is written. -/
theorem RD.err {A : Option Addr} {c : Nat} {l : List UInt8} {e : Int} (hg : w.heap[g]? = some (.cells #[.slice A l.length c, .int .i64 e] 145 (0, 0))) (hr : BRow w A l) (h1 : l.length ≤ c) (h2 : c ≤ 9223372036854775807) (e' : Int) :
    RD (w.setCell ⟨g, 1, none⟩ (.int .i64 e')) g ⟨l, e'⟩ :=
  ⟨A, c, by rw [set_heap hg]; simp, row_far hg hr _ _, h1, h2⟩
/-- The bytes that are left are written. -/
theorem RD.rest {A A' : Option Addr} {n c c' : Nat} {l' : List UInt8} {e : Int} (hg : w.heap[g]? = some (.cells #[.slice A n c, .int .i64 e] 145 (0, 0))) (hr : BRow w A' l') (h1 : l'.length ≤ c') (h2 : c' ≤ 9223372036854775807) :
    RD (w.setCell ⟨g, 0, none⟩ (.slice A' l'.length c')) g ⟨l', e⟩ :=
  ⟨A', c', by rw [set_heap hg]; simp, row_far hg hr _ _, h1, h2⟩
/-- Both are written, the bytes first. -/
theorem RD.both {A A' : Option Addr} {n c c' : Nat} {l' : List UInt8} {e : Int} (hg : w.heap[g]? = some (.cells #[.slice A n c, .int .i64 e] 145 (0, 0))) (hr : BRow w A' l') (h1 : l'.length ≤ c') (h2 : c' ≤ 9223372036854775807) (e' : Int) :
    RD ((w.setCell ⟨g, 0, none⟩ (.slice A' l'.length c')).setCell ⟨g, 1, none⟩ (.int .i64 e')) g ⟨l', e'⟩ := by
  have hg' : (w.setCell ⟨g, 0, none⟩ (.slice A' l'.length c')).heap[g]? = some (.cells #[.slice A' l'.length c', .int .i64 e] 145 (0, 0)) := by rw [set_heap hg]; simp
  exact RD.err hg' (row_far hg hr _ _) h1 h2 e'
theorem RD.cut {A A' : Option Addr} {n c c' k : Nat} {l : List UInt8} {e : Int} (hg : w.heap[g]? = some (.cells #[.slice A n c, .int .i64 e] 145 (0, 0))) (hr : BRow w A' (l.drop k)) (h1 : l.length - k ≤ c') (h2 : c' ≤ 9223372036854775807) :
    RD (w.setCell ⟨g, 0, none⟩ (.slice A' (l.length - k) c')) g ⟨l.drop k, e⟩ := by
  have := RD.rest (l' := l.drop k) hg hr (by rw [List.length_drop]; exact h1) h2
  rwa [List.length_drop] at this
/-- Where a cut of a row lies. -/
theorem row_cut {b o k : Nat} {l : List UInt8} (h : BRow w (some ⟨b, o, none⟩) l) : BRow w (some ⟨b, o + k, none⟩) (l.drop k) := by
  have := h.drop k
  simpa [Addr.add_lit] using this
theorem row_end {A : Option Addr} {k : Nat} {l : List UInt8} (h : l.length ≤ k) : BRow w A (l.drop k) := by
  rw [List.drop_eq_nil_of_le h]; exact BRow.nil
theorem grown_trans {a b c : World} {row : Option Nat} (h : a.grownBy b row) (k : b.grownBy c row) : a.grownBy c row :=
  ⟨k.os.trans h.os, k.tape.trans h.tape, k.output.trans h.output, Nat.le_trans h.size k.size, fun i hi hn => (k.block i (Nat.lt_of_lt_of_le hi h.size) hn).trans (h.block i hi hn)⟩
theorem grown_drew {a b : World} {row : Option Nat} (h : a.grownBy b row) : a.grownBy b.drew row := ⟨h.os, h.tape, h.output, h.size, h.block⟩
end

set_option maxHeartbeats 400000 in
theorem rerr_any (w : World) (g : Nat) (r : Wire.RS) (h : RD w g r) : Calls Try.prog 80 #[.pointer (some ⟨g, 0, none⟩)] w fun e w' => e = .returned (.int .i64 r.e) ∧ w = w' := by
  obtain ⟨A, c, hg, hr, h1, h2⟩ := h
  have c1 : w.cell? ⟨g, 1, none⟩ = some (.int .i64 r.e) := by rw [cell_of_row w g 1 _ _ _ hg]; rfl
  clear hg
  go_enter Try.func80, Try.ntmps80
  go_wp2_with fail
  go_ret
  exact ⟨rfl, rfl⟩
set_option maxHeartbeats 400000 in
theorem rerr_nil (w : World) : Calls Try.prog 80 #[.pointer none] w fun e w' => e = .returned (.int .i64 1) ∧ w = w' := by
  go_enter Try.func80, Try.ntmps80
  go_wp2_with fail
  go_ret
  exact ⟨rfl, rfl⟩
set_option maxHeartbeats 400000 in
theorem rleft_any (w : World) (g : Nat) (r : Wire.RS) (h : RD w g r) : Calls Try.prog 79 #[.pointer (some ⟨g, 0, none⟩)] w fun e w' => e = .returned (.int .i64 (r.l.length : Nat)) ∧ w = w' := by
  obtain ⟨A, c, hg, hr, h1, h2⟩ := h
  have c0 : w.cell? ⟨g, 0, none⟩ = some (.slice A r.l.length c) := by rw [cell_of_row w g 0 _ _ _ hg]; rfl
  clear hg
  go_enter Try.func79, Try.ntmps79
  go_wp2_with fail
  go_ret
  exact ⟨rfl, rfl⟩
set_option maxHeartbeats 400000 in
theorem rleft_nil (w : World) : Calls Try.prog 79 #[.pointer none] w fun e w' => e = .returned (.int .i64 0) ∧ w = w' := by
  go_enter Try.func79, Try.ntmps79
  go_wp2_with fail
  go_ret
  exact ⟨rfl, rfl⟩
set_option maxHeartbeats 400000 in
theorem rfail_any (w : World) (g : Nat) (A : Option Addr) (c : Nat) (l : List UInt8) (e e' : Int) (hg : w.heap[g]? = some (.cells #[.slice A l.length c, .int .i64 e] 145 (0, 0))) (hr : BRow w A l) (h1 : l.length ≤ c) (h2 : c ≤ 9223372036854775807) :
    Calls Try.prog 87 #[.pointer (some ⟨g, 0, none⟩), .int .i64 e'] w (Did w g (.int .u64 0) ⟨l, e'⟩) := by
  have c1 : w.cell? ⟨g, 1, none⟩ = some (.int .i64 e) := by rw [cell_of_row w g 1 _ _ _ hg]; rfl
  have f1 : w.frozen? ⟨g, 1, none⟩ = false := frozen_of_row w g 1 _ _ hg
  have HG := Lib.hid hg
  clear hg
  go_enter Try.func87, Try.ntmps87
  go_wp2_with fail
  go_ret
  exact ⟨rfl, RD.err HG.out hr h1 h2 e', set_grown _ _ _ _⟩
end Go.Proofs.Ythbanhedjfpmaaa
end

section
/-
  The contract of wire.Reader.Num.
-/
namespace Go.Proofs.Ythbanhedjfpmaaa
set_option linter.unusedSimpArgs false
set_option linter.unusedVariables false
open Go.RowKit

theorem tk_cons (i a : Nat) (l : List UInt8) (h : i < l.length) : Wire.tk i a (l.drop i) =
    if i = 9 ∧ 1 < l[i].toNat then (7, 0, 0) else if 128 ≤ l[i].toNat then Wire.tk (i + 1) (a + l[i].toNat % 128 * 128 ^ i) (l.drop (i + 1))
    else if l[i].toNat = 0 ∧ 0 < i then (7, 0, 0) else (0, i + 1, a + l[i].toNat % 128 * 128 ^ i) := by
  rw [List.drop_eq_getElem_cons h, Wire.tk]
/-- What n |= uint64(c%128) << shift comes to. -/
theorem or_shift (a c i : Nat) (ha : a < 128 ^ i) (hi : i ≤ 9) (hc : c < 256) (h9 : i = 9 → c ≤ 1) :
    Go.bits .or .u64 (a : Int) (IntKind.u64.wrap ((c : Int) % 128 * 2 ^ (7 * i))) = ((a + c % 128 * 128 ^ i : Nat) : Int) := by
  have hp : (128 : Nat) ^ i = 2 ^ (7 * i) := by rw [show (128 : Nat) = 2 ^ 7 from rfl, ← Nat.pow_mul]
  have hlt : c % 128 * 2 ^ (7 * i) < 18446744073709551616 := by
    have h1 : c % 128 < 128 := Nat.mod_lt _ (by omega)
    rcases Nat.lt_or_ge i 9 with h | h
    · have h2 : 2 ^ (7 * i) ≤ 2 ^ 56 := Nat.pow_le_pow_right (by omega) (by omega)
      have h3 : c % 128 * 2 ^ (7 * i) ≤ 127 * 2 ^ 56 := Nat.mul_le_mul (by omega) h2
      omega
    · obtain rfl : i = 9 := by omega
      have := h9 rfl
      have h3 : c % 128 * 2 ^ (7 * 9) ≤ 1 * 2 ^ 63 := Nat.mul_le_mul (by omega) (Nat.le_refl _)
      omega
  have e : IntKind.u64.wrap ((c : Int) % 128 * 2 ^ (7 * i)) = ((c % 128 * 2 ^ (7 * i) : Nat) : Int) := by
    have e1 : ((c : Int) % 128) * 2 ^ (7 * i) = ((c % 128 * 2 ^ (7 * i) : Nat) : Int) := by simp
    rw [e1]
    generalize c % 128 * 2 ^ (7 * i) = q at hlt
    exact IntWalk.u64_in _ (by omega)
  have ha2 : a < 18446744073709551616 := by
    rw [hp] at ha
    have : 2 ^ (7 * i) ≤ 2 ^ 63 := Nat.pow_le_pow_right (by omega) (by omega)
    omega
  have key := Nat.two_pow_add_eq_or_of_lt (show a < 2 ^ (7 * i) by rw [← hp]; exact ha) (c % 128)
  rw [e, u64_or_nat _ _ ha2 hlt, hp, Nat.mul_comm (c % 128), Nat.or_comm, ← key, Nat.add_comm]

theorem did_take {w w' : World} {g er : Nat} {l : List UInt8} (h : (Wire.tk 0 0 l).1 = er) (h0 : er ≠ 0) (hrd : RD w' g ⟨l, (er : Int)⟩) (hg : w.grownBy w' (some g)) :
    Did w g (.int .u64 ((Wire.take ⟨l, 0⟩).2 : Nat)) (Wire.take ⟨l, 0⟩).1 (.returned (.int .u64 0)) w' := by
  have e : Wire.take ⟨l, 0⟩ = (⟨l, (er : Int)⟩, 0) := by
    unfold Wire.take
    rw [if_neg (by simp), if_pos (by rw [h]; exact h0), h]
  rw [e]
  exact ⟨rfl, hrd, hg⟩
theorem did_took {w w' : World} {g u v : Nat} {l : List UInt8} (h : Wire.tk 0 0 l = (0, u, v)) (hrd : RD w' g ⟨l.drop u, 0⟩) (hg : w.grownBy w' (some g)) :
    Did w g (.int .u64 ((Wire.take ⟨l, 0⟩).2 : Nat)) (Wire.take ⟨l, 0⟩).1 (.returned (.int .u64 (v : Nat))) w' := by
  have e : Wire.take ⟨l, 0⟩ = (⟨l.drop u, 0⟩, v) := by
    unfold Wire.take
    rw [if_neg (by simp), if_neg (by rw [h]; simp), h]
  rw [e]
  exact ⟨rfl, hrd, hg⟩

structure Acc (a i : Nat) : Prop where
  lt : a < 128 ^ i

set_option maxRecDepth 20000 in
set_option maxHeartbeats 1000000 in
theorem rnum_any (w : World) (g : Nat) (r : Wire.RS) (h : RD w g r) : Calls Try.prog 78 #[.pointer (some ⟨g, 0, none⟩)] w (Did w g (.int .u64 ((Wire.take r).2 : Nat)) (Wire.take r).1) := by
  obtain ⟨l, e⟩ := r
  have HRD := Lib.hid h
  obtain ⟨A, c, hg, hr, h1, h2⟩ := h
  simp only at hg hr h1
  by_cases he : e = 0
  · subst he
    have c0 : w.cell? ⟨g, 0, none⟩ = some (.slice A l.length c) := by rw [cell_of_row w g 0 _ _ _ hg]; rfl
    have f0 : w.frozen? ⟨g, 0, none⟩ = false := frozen_of_row w g 0 _ _ hg
    have HG := Lib.hid hg
    clear hg
    go_enter Try.func78, Try.ntmps78
    go_wp2_with fail
    refine (rerr_any w g _ HRD.out).mono ?_
    rintro e w' ⟨rfl, rfl⟩
    go_wp2_with fail
    go_loop [3, 4, 10] (fun nv sv iv => ∃ i a : Nat, i ≤ 9 ∧ iv = .int .i64 i ∧ nv = .int .u64 (a : Nat) ∧ sv = .int .i64 (7 * i : Nat) ∧ Acc a i ∧ i ≤ l.length ∧ Hid (Wire.tk 0 0 l = Wire.tk i a (l.drop i))) (fun _ _ iv => 10 - (intOf iv).toNat)
    case atStart => exact ⟨0, 0, by omega, rfl, rfl, rfl, ⟨by simp⟩, Nat.zero_le _, rfl⟩
    case round =>
      obtain ⟨i, a, hi, rfl, rfl, rfl, HA, hil, HT⟩ := hrel
      by_cases hlt : i < l.length
      · have HC := Lib.hid (tk_cons i a l hlt)
        obtain ⟨b, o, rfl, _, hc⟩ := hr.at_ hlt
        have hcl := l[i].toNat_lt
        generalize l[i].toNat = x at hc hcl HC
        have HO := Lib.hid (or_shift a x i HA.lt hi hcl)
        by_cases hi9 : i = 9
        · have hi9b : ((i : Int) == 9) = true := by simp; omega
          have hi9l : 9 ≤ i := by omega
          clear hi9
          by_cases hx1 : 1 < x
          · go_wp2_with fail
            refine (rfail_any w g _ c l 0 7 HG.out hr h1 h2).mono ?_
            rintro e w' ⟨rfl, hrd, hgr⟩
            go_wp2_with fail
            go_ret
            refine did_take (er := 7) ?_ (by omega) hrd hgr
            rw [HT.out, HC.out]
            rw [if_pos ⟨by omega, hx1⟩]
          · have HO := Lib.hid (HO.out (by omega))
            by_cases hx0 : x = 0
            · have hx0b : ((x : Int) == 0) = true := by simp; omega
              have hx0l : x ≤ 0 := by omega
              clear hx0
              go_wp2_with fail
              refine (rfail_any w g _ c l 0 7 HG.out hr h1 h2).mono ?_
              rintro e w' ⟨rfl, hrd, hgr⟩
              go_wp2_with fail
              go_ret
              refine did_take (er := 7) ?_ (by omega) hrd hgr
              rw [HT.out, HC.out]
              rw [if_neg (by omega), if_neg (by omega), if_pos ⟨by omega, by omega⟩]
            · have hx0b : ((x : Int) == 0) = false := by simp; omega
              go_wp2_with fail
              all_goals
                go_ret
                rw [HO.out]
                refine did_took (u := i + 1) ?_ ?_ (set_grown _ _ _ _)
                · rw [HT.out, HC.out, if_neg (by omega), if_neg (by omega), if_neg (by omega)]
                · refine RD.cut HG.out ?_ (by omega) (by omega)
                  first | exact row_cut hr | exact row_end (by omega)
        · have HO := Lib.hid (HO.out (by omega))
          have hi9b : ((i : Int) == 9) = false := by simp; omega
          by_cases hx : 128 ≤ x
          · go_wp2_with fail
            go_round
            case rel =>
              refine ⟨i + 1, a + x % 128 * 128 ^ i, by omega, by go_num, by rw [HO.out], by go_num, ⟨?_⟩, by omega, ?_⟩
              · have h3 := HA.lt
                have h4 : x % 128 * 128 ^ i ≤ 127 * 128 ^ i := Nat.mul_le_mul (by omega) (Nat.le_refl _)
                rw [Nat.pow_succ]
                omega
              · show _ = _
                rw [HT.out, HC.out, if_neg (by omega), if_pos hx]
            case measure => simp [intOf]; omega
          · by_cases hx0 : x = 0
            · have hx0b : ((x : Int) == 0) = true := by simp; omega
              have hx0l : x ≤ 0 := by omega
              clear hx0
              by_cases hi0 : i ≤ 0
              · go_wp2_with fail
                all_goals
                  go_ret
                  rw [HO.out]
                  refine did_took (u := i + 1) ?_ ?_ (set_grown _ _ _ _)
                  · rw [HT.out, HC.out, if_neg (by omega), if_neg (by omega), if_neg (by omega)]
                  · refine RD.cut HG.out ?_ (by omega) (by omega)
                    first | exact row_cut hr | exact row_end (by omega)
              · go_wp2_with fail
                refine (rfail_any w g _ c l 0 7 HG.out hr h1 h2).mono ?_
                rintro e w' ⟨rfl, hrd, hgr⟩
                go_wp2_with fail
                go_ret
                refine did_take (er := 7) ?_ (by omega) hrd hgr
                rw [HT.out, HC.out]
                rw [if_neg (by omega), if_neg (by omega), if_pos ⟨by omega, by omega⟩]
            · have hx0b : ((x : Int) == 0) = false := by simp; omega
              go_wp2_with fail
              all_goals
                go_ret
                rw [HO.out]
                refine did_took (u := i + 1) ?_ ?_ (set_grown _ _ _ _)
                · rw [HT.out, HC.out, if_neg (by omega), if_neg (by omega), if_neg (by omega)]
                · refine RD.cut HG.out ?_ (by omega) (by omega)
                  first | exact row_cut hr | exact row_end (by omega)
      · obtain rfl : i = l.length := by omega
        go_wp2_with fail
        refine (rfail_any w g A c l 0 10 HG.out hr h1 h2).mono ?_
        rintro e w' ⟨rfl, hrd, hgr⟩
        go_wp2_with fail
        go_ret
        refine did_take (er := 10) ?_ (by omega) hrd hgr
        rw [HT.out, List.drop_length]
        rfl
  · have heb : (e != 0) = true := by simpa using he
    have HE := Lib.hid he
    clear he hg
    go_enter Try.func78, Try.ntmps78
    go_wp2_with fail
    refine (rerr_any w g _ HRD.out).mono ?_
    rintro e' w' ⟨rfl, rfl⟩
    go_wp2_with fail
    go_ret
    have : Wire.take ⟨l, e⟩ = (⟨l, e⟩, 0) := by unfold Wire.take; rw [if_pos HE.out]
    rw [this]
    exact ⟨rfl, HRD.out, World.grownBy.refl _ _⟩
end Go.Proofs.Ythbanhedjfpmaaa
end

section
/-
  The contracts of wire.Reader's other methods, of a reader that is one.
-/
namespace Go.Proofs.Ythbanhedjfpmaaa
set_option linter.unusedSimpArgs false
set_option linter.unusedVariables false
open Go.RowKit

theorem rd_open {w : World} {g : Nat} {r : Wire.RS} (h : RD w g r) : ∃ A c, w.cell? ⟨g, 0, none⟩ = some (.slice A r.l.length c) ∧ w.cell? ⟨g, 1, none⟩ = some (.int .i64 r.e) ∧ w.frozen? ⟨g, 0, none⟩ = false ∧ w.frozen? ⟨g, 1, none⟩ = false ∧ BRow w A r.l ∧ r.l.length ≤ c ∧ c ≤ 9223372036854775807 ∧
    Hid (w.heap[g]? = some (.cells #[.slice A r.l.length c, .int .i64 r.e] 145 (0, 0))) := by
  obtain ⟨A, c, hg, hr, h1, h2⟩ := h
  exact ⟨A, c, by rw [cell_of_row w g 0 _ _ _ hg]; rfl, by rw [cell_of_row w g 1 _ _ _ hg]; rfl, frozen_of_row w g 0 _ _ hg, frozen_of_row w g 1 _ _ hg, hr, h1, h2, hg⟩

theorem row_grown {w w1 : World} {g : Nat} {A A' : Option Addr} {n c : Nat} {e : Int} {t : TypeId} {l : List UInt8} (hg : w.heap[g]? = some (.cells #[.slice A' n c, .int .i64 e] t (0, 0))) (hr : BRow w A l) (h : w.grownBy w1 (some g)) : BRow w1 A l := by
  cases l with
  | nil => exact BRow.nil
  | cons x l =>
    have hne := row_ne hg hr (by simp)
    intro hl
    obtain ⟨b, o, rfl, hlt, hc⟩ := hr hl
    refine ⟨b, o, rfl, Nat.lt_of_lt_of_le hlt h.size, fun j hj => ?_⟩
    rw [← hc j hj]
    exact World.cell?_of_block (h.block b hlt (fun e => hne _ rfl (by simpa using e)))
theorem int_odd (n k : Nat) (hq : IntKind.u64.wrap ((n : Int) / 2) = (k : Int)) (hk : k ≤ 9223372036854775807) : wrap64 (wrap64 (-wrap64 (IntKind.u64.wrap ((n : Int) / 2))) - 1) = -(k : Int) - 1 := by
  rw [hq, IntWalk.wrap64_in (k : Int) (by omega), IntWalk.wrap64_in (-(k : Int)) (by omega), IntWalk.wrap64_in _ (by omega)]
theorem int_even (n k : Nat) (hq : IntKind.u64.wrap ((n : Int) / 2) = (k : Int)) (hk : k ≤ 9223372036854775807) : wrap64 (IntKind.u64.wrap ((n : Int) / 2)) = (k : Int) := by
  rw [hq, IntWalk.wrap64_in (k : Int) (by omega)]

theorem take_of_err {r : Wire.RS} (h : r.e ≠ 0) : Wire.take r = (r, 0) := by unfold Wire.take; rw [if_pos h]
theorem count_of_err {r : Wire.RS} {most : Int} (h : r.e ≠ 0) : Wire.count r most = (r, 0) := by unfold Wire.count; rw [take_of_err h, if_pos h]

end Go.Proofs.Ythbanhedjfpmaaa
end

section
/-
  The contract of wire.Read, and those of wire.Reader's methods, of a nil reader.
-/
namespace Go.Proofs.Ythbanhedjfpmaaa
set_option linter.unusedSimpArgs false
set_option linter.unusedVariables false
open Go.RowKit

/-- Block g is a reader, it and its bytes among the blocks from B on. -/
def ROwn (B : Nat) (w : World) (g : Nat) (r : Wire.RS) : Prop :=
  ∃ A c, w.heap[g]? = some (.cells #[.slice A r.l.length c, .int .i64 r.e] 145 (0, 0)) ∧ BRow w A r.l ∧ r.l.length ≤ c ∧ c ≤ 9223372036854775807 ∧ B ≤ g ∧ ∀ a, A = some a → B ≤ a.block
/-- What is answered is a new reader of the bytes. -/
def RetRd (W : World) (l : List UInt8) (e : Ending) (w' : World) : Prop :=
  ∃ g, e = .returned (.pointer (some ⟨g, 0, none⟩)) ∧ ROwn W.heap.size w' g ⟨l, 0⟩ ∧ Below W.heap.size W w'

section
variable {B : Nat} {w w' : World} {g : Nat} {r : Wire.RS}
theorem ROwn.rd (h : ROwn B w g r) : RD w g r := by
  obtain ⟨A, c, h1, h2, h3, h4, _⟩ := h
  exact ⟨A, c, h1, h2, h3, h4⟩
theorem ROwn.ge (h : ROwn B w g r) : B ≤ g := by
  obtain ⟨A, c, h1, h2, h3, h4, h5, _⟩ := h
  exact h5
/-- Blocks below B turn. -/
theorem ROwn.keep (h : ROwn B w g r) (hs : w.heap.size ≤ w'.heap.size) (hk : ∀ k, B ≤ k → k < w.heap.size → w'.heap[k]? = w.heap[k]?) : ROwn B w' g r := by
  have hlt := h.rd.lt
  obtain ⟨A, c, h1, h2, h3, h4, h5, h6⟩ := h
  refine ⟨A, c, (hk g h5 hlt).trans h1, ?_, h3, h4, h5, h6⟩
  intro hl
  obtain ⟨b, o, rfl, hb, hc⟩ := h2 hl
  exact ⟨b, o, rfl, by omega, fun j hj => (World.cell?_of_block (hk b (h6 _ rfl) hb)).trans (hc j hj)⟩
theorem ROwn.below (h : ROwn B w g r) (hb : Below w.heap.size w w') : ROwn B w' g r := h.keep hb.size fun k _ hk => hb.block k hk
theorem Did.below {v : Value} {e : Ending} (h : Did w g v r e w') {B : Nat} {w0 : World} (hb : Below B w0 w) (hB : B ≤ w.heap.size) (hg : B ≤ g) : Below B w0 w' :=
  hb.grown h.2.2 hB fun k hk => by simp at hk; omega
end

theorem did_row {w w' : World} {g : Nat} {r r' : Wire.RS} {v : Value} {e : Ending} {A : Option Addr} {l : List UInt8} (hrd : RD w g r) (hr : BRow w A l) (h : Did w g v r' e w') : BRow w' A l := by
  obtain ⟨A', c, hg, _⟩ := hrd
  exact row_grown hg hr h.2.2

theorem own_heap {w : World} {B g c : Nat} {l : List UInt8} (h : BOwn w B (some ⟨g, 0, none⟩) c l) (hc : c = l.length) : w.heap[g]? = some (.cells (l.map bv).toArray 5 (0, 0)) := by
  rcases h.2 with ⟨hv, h0⟩ | ⟨g', cap, cur, hv, hb, hg, hn, hm, hx⟩
  · simp at hv
  · simp only [Value.slice.injEq, Option.some.injEq, Addr.mk.injEq, true_and, and_true] at hv
    obtain ⟨rfl, rfl⟩ := hv
    subst hc
    rw [hg, ← hx.2, List.take_of_length_le (by simp; omega)]

theorem wcopy_src {w : World} {A : Option Addr} {l : List UInt8} (h : BRow w A l) (hl : 0 < (l.map bv).length) : ∃ ad, A = some ad ∧ ∀ j v, (l.map bv)[j]? = some v → w.cell? (ad.add j) = some v := by
  obtain ⟨b, o, rfl, _, hc⟩ := h hl
  refine ⟨_, rfl, fun j v hj => ?_⟩
  obtain ⟨h1, h2⟩ := List.getElem?_eq_some_iff.1 hj
  rw [Addr.add_lit, hc j h1, h2]
theorem splice_all {α : Type} (L cs : List α) (h : cs.length = L.length) : splice L 0 cs = cs := by
  simp [splice, h]

set_option maxRecDepth 20000 in
set_option maxHeartbeats 1000000 in
theorem wread_any (w : World) (A : Option Addr) (c : Nat) (l : List UInt8) (hr : BRow w A l) (hl : l.length ≤ 1000000) :
    Calls Try.prog 77 #[.slice A l.length c] w (RetRd w l) := by
  obtain ⟨n, hn⟩ : ∃ n, l.length = n := ⟨_, rfl⟩
  rw [hn] at hl ⊢
  have HN := Lib.hid hn
  clear hn
  go_enter Try.func77, Try.ntmps77
  go_wp2_with (first
    | (at_make; refine wpList_make_zeros rfl (.tmp 5) (.tmp 5) rfl .i64 .i64 n n n rfl rfl rfl rfl (by omega) (Nat.le_refl _) ?_; intro w1 ho1 hb1)
    | (refine wpList_copy_splice (o := ⟨some 9, _, _, _, _, _⟩) rfl (.tmp 7) (.tmp 8) 33 33 rfl 5 Try.underlying33 (by kernel_rfl) _ _ _ _ _ _ rfl rfl w.heap.size 0 _ 5 (own_heap ho1 (by simp)) (l.map bv) (by rw [List.length_map, HN.out]; simp) (fun h => ⟨rfl, wcopy_src (hr.below hb1) h⟩) (by simp [HN.out]) (one_bytes l) w.heap.size w hb1 (Nat.le_refl _) ?_; intro w2 hg2 hb2))
  go_ret
  have hg := hg2.out
  rw [splice_all _ _ (by simp [HN.out])] at hg
  have hlt : w.heap.size < w2.heap.size := (Array.getElem?_eq_some_iff.1 hg).1
  have hrow : BRow w2 (some ⟨w.heap.size, 0, none⟩) l := fun _ => ⟨w.heap.size, 0, rfl, hlt, fun j hj => by
    rw [cell_of_row w2 w.heap.size (0 + j) _ _ _ hg]
    simp at hj
    simp [hj]⟩
  refine ⟨w2.heap.size, rfl, ⟨some ⟨w.heap.size, 0, none⟩, n, ?_, hrow.alloc _, by simp [HN.out], by omega, by omega, fun a ha => by cases ha; exact Nat.le_refl _⟩, hb2.alloc (by omega) _⟩
  rw [HN.out]
  show (w2.heap.push _)[w2.heap.size]? = _
  simp
set_option maxRecDepth 20000 in
set_option maxHeartbeats 400000 in
theorem rnum_nil (w : World) : Calls Try.prog 78 #[.pointer none] w fun e w' => e = .returned (.int .u64 0) ∧ w = w' := by
  go_enter Try.func78, Try.ntmps78
  go_wp2_with fail
  refine (rerr_nil w).mono ?_
  rintro e w1 ⟨rfl, rfl⟩
  go_wp2_with fail
  go_ret
  exact ⟨rfl, rfl⟩

end Go.Proofs.Ythbanhedjfpmaaa
end

section
/-
  The contract of the journal's 'parse': the records of bytes.
-/
namespace Go.Proofs.Ythbanhedjfpmaaa
set_option linter.unusedSimpArgs false
set_option linter.unusedVariables false
open Go.RowKit

/-- Slices of bytes as elements. -/
def ePart : Elem Part where
  e := 33
  t := 63
  sz := 1
  bytes := 24
  zero := .slice none 0 0
  code := fun p => [p.v]
  pos := by decide
  few := by decide
  len := fun _ => rfl
  one := by
    intro x u hu
    simp at hu
    subst hu
    rfl
  zsz := rfl
  info := by kernel_rfl
  under := Try.underlying63
/-- A block of bytes. -/
def isU8 (w : World) (g : Nat) : Prop := ∃ cur fr, w.heap[g]? = some (.cells cur 5 fr)
/-- The texts L, each readable, and none of them in a block of S. -/
def PartsX (S : Nat → Prop) (w : World) (ps : List Part) (L : List (List UInt8)) : Prop := ps.map (·.l) = L ∧ ∀ p ∈ ps, p.ok w ∧ (p.l ≠ [] → ∀ a, p.a = some a → ¬ S a.block ∧ isU8 w a.block)
theorem isU8.lt {w : World} {g : Nat} (h : isU8 w g) : g < w.heap.size := by
  obtain ⟨_, _, h⟩ := h
  exact (Array.getElem?_eq_some_iff.1 h).1
theorem BRow.keepB {w w' : World} {A : Option Addr} {l : List UInt8} (h : BRow w A l) (hs : w.heap.size ≤ w'.heap.size) (hk : l ≠ [] → ∀ a, A = some a → w'.heap[a.block]? = w.heap[a.block]?) : BRow w' A l := fun hl => by
  obtain ⟨b, o, rfl, hlt, hc⟩ := h hl
  exact ⟨b, o, rfl, Nat.lt_of_lt_of_le hlt hs, fun j hj => (World.cell?_of_block (a := ⟨b, o + j, none⟩) (hk (by rintro rfl; simp at hl) ⟨b, o, none⟩ rfl)).trans (hc j hj)⟩
theorem PartsX.keepB {S : Nat → Prop} {w w' : World} {ps : List Part} {L : List (List UInt8)} (h : PartsX S w ps L) (hs : w.heap.size ≤ w'.heap.size) (hk : ∀ g, isU8 w g → ¬ S g → w'.heap[g]? = w.heap[g]?) : PartsX S w' ps L :=
  ⟨h.1, fun p hp => by
    obtain ⟨⟨h1, h2⟩, h3⟩ := h.2 p hp
    refine ⟨⟨h1.keepB hs fun hl a ha => hk _ (h3 hl a ha).2 (h3 hl a ha).1, h2⟩, fun hl a ha => ⟨(h3 hl a ha).1, ?_⟩⟩
    obtain ⟨cur, fr, hc⟩ := (h3 hl a ha).2
    exact ⟨cur, fr, (hk _ (h3 hl a ha).2 (h3 hl a ha).1).trans hc⟩⟩
theorem PartsX.below {S : Nat → Prop} {w w' : World} {ps : List Part} {L : List (List UInt8)} (h : PartsX S w ps L) (hb : Below w.heap.size w w') : PartsX S w' ps L :=
  h.keepB hb.size fun _ hg _ => hb.block _ hg.lt
theorem PartsX.kept {S : Nat → Prop} {w w' : World} {ps : List Part} {L : List (List UInt8)} (h : PartsX S w ps L) (hk : Keeps w w' S) : PartsX S w' ps L :=
  h.keepB hk.size fun _ hg hS => hk.block _ hg.lt hS
/-- Append to a row of other elements. -/
theorem PartsX.keptE {α : Type} {E : Elem α} {S : Nat → Prop} {w w' : World} {B c : Nat} {A : Option Addr} {xs : List α} {ps : List Part} {L : List (List UInt8)} (h : PartsX S w ps L) (ho : EOwn E w B A c xs) (hE : E.e ≠ 5) (hg : w.grownBy w' (A.map (·.block))) : PartsX S w' ps L := by
  refine h.keepB hg.size fun g hu _ => hg.block g hu.lt ?_
  obtain ⟨cur, fr, hc⟩ := hu
  rcases ho.form with ⟨rfl, _⟩ | ⟨g', rfl, _, _, _, _, cur', hg'⟩
  · simp
  · simp only [Option.map_some, ne_eq, Option.some.injEq]
    rintro rfl
    rw [hc] at hg'
    simp only [Option.some.injEq, Obj.cells.injEq] at hg'
    exact hE hg'.2.1.symm
theorem BOwn.u8 {w : World} {B c : Nat} {A : Option Addr} {l : List UInt8} (h : BOwn w B A c l) : ∀ a, A = some a → isU8 w a.block := by
  rintro a rfl
  rcases h.2 with ⟨hv, _⟩ | ⟨g, cap, cur, hv, hb, hg, _⟩
  · simp at hv
  · simp only [Value.slice.injEq, Option.some.injEq] at hv
    obtain ⟨rfl, _, rfl⟩ := hv
    exact ⟨_, _, hg⟩
/-- A call that returns new texts (none of them in a block of S), and an error. -/
def RetParts (S : Nat → Prop) (w : World) (r : List (List UInt8) × Int) (e : Ending) (w' : World) : Prop := ∃ A c ps, e = .returned (.tuple #[.slice A (List.length ps) c, .int .i64 r.2]) ∧ EOwn ePart w' w.heap.size A c ps ∧ PartsX S w' ps r.1 ∧ Below w.heap.size w w'

/-- What is found behind what has been found. -/
def joinR (done : List (List UInt8)) (r : List (List UInt8) × Int) : List (List UInt8) × Int := if r.2 = 0 then (done ++ r.1, 0) else ([], r.2)
theorem joinR_nil (r : List (List UInt8) × Int) (h : r.2 = 0 ∨ r.1 = []) : joinR [] r = r := by
  unfold joinR
  split
  · rename_i h0; rw [← h0]; rfl
  · rename_i h0; rcases h with h | h
    · exact absurd h h0
    · rw [← h]
theorem records_err (f : Nat) : ∀ b, (Wal.parse f b).2 = 0 ∨ (Wal.parse f b).1 = [] := by
  induction f with
  | zero => intro b; exact .inl rfl
  | succ f ih =>
    intro b
    rw [Wal.parse]
    split
    · exact .inl rfl
    · split
      · exact .inr rfl
      · split
        · exact .inr rfl
        · split
          split
          · exact .inl rfl
          · exact .inr rfl
theorem records_nil : Wal.records [] = ([], 0) := rfl
theorem records_form {b : List UInt8} (hb : b ≠ []) (h : (Wire.take ⟨b, 0⟩).1.e ≠ 0 ∨ (Wire.take ⟨b, 0⟩).1.l.length < 4 ∨ (Wire.take ⟨b, 0⟩).1.l.length - 4 < (Wire.take ⟨b, 0⟩).2) : Wal.records b = ([], 7) := by
  obtain ⟨f, hf⟩ : ∃ f, b.length = f + 1 := ⟨b.length - 1, by have := List.length_pos_iff.2 hb; omega⟩
  rw [Wal.records, hf, Wal.parse, if_neg hb, if_pos h]
theorem records_sum {b : List UInt8} (hb : b ≠ []) (he : (Wire.take ⟨b, 0⟩).1.e = 0) (h4 : 4 ≤ (Wire.take ⟨b, 0⟩).1.l.length) (hn : (Wire.take ⟨b, 0⟩).2 ≤ (Wire.take ⟨b, 0⟩).1.l.length - 4)
    (h : Crc.le4 (Crc.sum (((Wire.take ⟨b, 0⟩).1.l.drop 4).take (Wire.take ⟨b, 0⟩).2)) ≠ (Wire.take ⟨b, 0⟩).1.l.take 4) : Wal.records b = ([], 20) := by
  obtain ⟨f, hf⟩ : ∃ f, b.length = f + 1 := ⟨b.length - 1, by have := List.length_pos_iff.2 hb; omega⟩
  rw [Wal.records, hf, Wal.parse, if_neg hb, if_neg (by omega), if_pos h]
theorem records_step {b : List UInt8} (hb : b ≠ []) (he : (Wire.take ⟨b, 0⟩).1.e = 0) (h4 : 4 ≤ (Wire.take ⟨b, 0⟩).1.l.length) (hn : (Wire.take ⟨b, 0⟩).2 ≤ (Wire.take ⟨b, 0⟩).1.l.length - 4)
    (h : Crc.le4 (Crc.sum (((Wire.take ⟨b, 0⟩).1.l.drop 4).take (Wire.take ⟨b, 0⟩).2)) = (Wire.take ⟨b, 0⟩).1.l.take 4) :
    Wal.records b = joinR [((Wire.take ⟨b, 0⟩).1.l.drop 4).take (Wire.take ⟨b, 0⟩).2] (Wal.records ((Wire.take ⟨b, 0⟩).1.l.drop (4 + (Wire.take ⟨b, 0⟩).2))) := by
  have hl := Wire.take_len ⟨b, 0⟩
  simp only at hl
  obtain ⟨f, hf⟩ : ∃ f, b.length = f + 1 := ⟨b.length - 1, by have := List.length_pos_iff.2 hb; omega⟩
  rw [Wal.records, hf, Wal.parse, if_neg hb, if_neg (by omega), if_neg (by simp [h]), Wal.records, Wal.parse_fuel _ f _ (Nat.le_refl _) (by simp; omega)]
  rfl
theorem joinR_joinR (done : List (List UInt8)) (s : List UInt8) (r : List (List UInt8) × Int) : joinR done (joinR [s] r) = joinR (done ++ [s]) r := by
  unfold joinR
  by_cases h : r.2 = 0
  · rw [if_pos h, if_pos rfl, if_pos h]; simp
  · rw [if_neg h, if_neg h, if_neg h]

/-- The journal's bytes b, split at their first number. -/
structure Split (b : List UInt8) (e : Int) (r : List UInt8) (n : Nat) : Prop where
  eq : Wire.take ⟨b, 0⟩ = (⟨r, e⟩, n)
theorem split_any (b : List UInt8) : ∃ e r n, Split b e r n := ⟨_, _, _, ⟨rfl⟩⟩
section
variable {b r : List UInt8} {e : Int} {n : Nat} (h : Split b e r n)
include h
theorem Split.len : r.length ≤ b.length := by
  have := Wire.take_len ⟨b, 0⟩
  rw [h.eq] at this; exact this
theorem Split.rest (he : e = 0) : b.drop (b.length - r.length) = r := by
  have h1 := Wal.take_one (b := b) (by rw [h.eq]; exact he)
  rw [h.eq] at h1
  simp only at h1
  rw [← h1]
  simp
theorem Split.front (he : e = 0) (h4 : 4 ≤ r.length) (hn : n ≤ r.length - 4) :
    (Wal.frame ((r.drop 4).take n) = b.take (b.length - r.length + 4 + n)) ↔ Crc.le4 (Crc.sum ((r.drop 4).take n)) = r.take 4 := by
  have := Wal.frame_front (b := b) (by rw [h.eq]; exact he) (by rw [h.eq]; exact h4) (by rw [h.eq]; exact hn)
  rw [h.eq] at this; exact this
theorem Split.form (hb : b ≠ []) (hx : e ≠ 0 ∨ r.length < 4 ∨ r.length - 4 < n) : Wal.records b = ([], 7) := records_form hb (by rw [h.eq]; exact hx)
theorem Split.bad (hb : b ≠ []) (he : e = 0) (h4 : 4 ≤ r.length) (hn : n ≤ r.length - 4) (hx : Wal.frame ((r.drop 4).take n) ≠ b.take (b.length - r.length + 4 + n)) : Wal.records b = ([], 20) := by
  have := records_sum hb (by rw [h.eq]; exact he) (by rw [h.eq]; exact h4) (by rw [h.eq]; exact hn)
  rw [h.eq] at this
  exact this (fun hq => hx ((h.front he h4 hn).2 hq))
theorem Split.step (hb : b ≠ []) (he : e = 0) (h4 : 4 ≤ r.length) (hn : n ≤ r.length - 4) (hx : Wal.frame ((r.drop 4).take n) = b.take (b.length - r.length + 4 + n)) : Wal.records b = joinR [(r.drop 4).take n] (Wal.records (r.drop (4 + n))) := by
  have := records_step hb (by rw [h.eq]; exact he) (by rw [h.eq]; exact h4) (by rw [h.eq]; exact hn)
  rw [h.eq] at this
  exact this ((h.front he h4 hn).1 hx)
end
theorem PartsX.snoc {S : Nat → Prop} {w : World} {ps : List Part} {L : List (List UInt8)} (h : PartsX S w ps L) {p : Part} (hp : p.ok w) (ha : ∀ a, p.a = some a → ¬ S a.block ∧ isU8 w a.block) : PartsX S w (ps ++ [p]) (L ++ [p.l]) := by
  refine ⟨by rw [List.map_append, h.1]; rfl, fun q hq => ?_⟩
  rcases List.mem_append.1 hq with h1 | h1
  · exact h.2 q h1
  · simp only [List.mem_singleton] at h1
    subst h1
    exact ⟨hp, fun _ => ha⟩
theorem ret_noparts {S : Nat → Prop} {w w' : World} {R : List (List UInt8) × Int} {k : Int} (h : R = ([], k)) (hb : Below w.heap.size w w') : RetParts S w R (.returned (.tuple #[.slice none 0 0, .int .i64 k])) w' := by
  rw [h]
  exact ⟨none, 0, [], rfl, EOwn.nil _ _, ⟨rfl, fun p hp => by cases hp⟩, hb⟩
theorem joinR_err {done : List (List UInt8)} {k : Int} (hk : k ≠ 0) : joinR done ([], k) = ([], k) := by unfold joinR; rw [if_neg hk]
set_option maxRecDepth 20000 in
set_option maxHeartbeats 2000000 in
theorem parse_any (S : Nat → Prop) (w : World) (hS : ∀ i, S i → i < w.heap.size) (A : Option Addr) (c : Nat) (l : List UInt8) (hr : BRow w A l) (hl : l.length ≤ 1000000) (hc : l.length ≤ c) (hcm : c ≤ 9223372036854775807) :
    Calls Try.prog 65 #[.slice A l.length c] w (RetParts S w (Wal.records l)) := by
  obtain ⟨R, hR⟩ : ∃ R, R = Wal.records l := ⟨_, rfl⟩
  have H0 : Hid (BRow w A l ∧ R = joinR [] (Wal.records l)) := ⟨hr, by rw [hR]; exact (joinR_nil _ (records_err _ _)).symm⟩
  have HS := Lib.hid hS
  rw [← hR]
  clear hr hS hR
  go_enter Try.func65, Try.ntmps65
  go_wp2_with fail
  go_loopw [0, 4] (fun bv ov wr => ∃ (b : List UInt8) (A1 : Option Addr) (c1 : Nat) (done : List (List UInt8)) (ps : List Part) (Ao : Option Addr) (co : Nat), bv = .slice A1 b.length c1 ∧ ov = .slice Ao ps.length co ∧ b.length ≤ l.length ∧ b.length ≤ c1 ∧ c1 ≤ 9223372036854775807 ∧ ps.length + b.length ≤ l.length ∧
    Hid (BRow w A1 b ∧ R = joinR done (Wal.records b) ∧ EOwn ePart wr w.heap.size Ao co ps ∧ PartsX S wr ps done ∧ Below w.heap.size w wr)) (fun bv _ _ => match bv with | .slice _ n _ => n | _ => 0)
  case atStart => exact ⟨l, A, c, [], [], none, 0, rfl, rfl, Nat.le_refl _, hc, hcm, by simp, H0.out.1, H0.out.2, EOwn.nil _ _, ⟨rfl, fun p hp => by cases hp⟩, Below.refl _ _⟩
  case round =>
    obtain ⟨b, A1, c1, done, ps, Ao, co, rfl, rfl, hbl, hbc, hc1, hpl, HJ⟩ := hrel
    clear H0
    rcases Nat.eq_zero_or_pos b.length with h0 | h0
    · obtain rfl := List.eq_nil_of_length_eq_zero h0
      go_wp2_with fail
      go_ret2
      have e : R = (done, 0) := by rw [HJ.out.2.1, records_nil]; simp [joinR]
      rw [e]
      exact ⟨Ao, co, ps, rfl, HJ.out.2.2.1, HJ.out.2.2.2.1, HJ.out.2.2.2.2⟩
    · obtain ⟨e, r, n, hsp⟩ := split_any b
      have hrl := hsp.len
      have HSP := Lib.hid hsp
      have HNE : Hid (b ≠ []) := by rintro rfl; simp at h0
      have hbpos : (0 : Int) < (b.length : Int) := by omega
      have HRD := Lib.hid (wread_any wr A1 c1 b (HJ.out.1.below HJ.out.2.2.2.2) (by omega))
      clear hsp
      go_wp2_with fail
      refine HRD.out.mono ?_
      rintro e1 w1 ⟨g, rfl, hg, hb1⟩
      have hnum := rnum_any w1 g _ hg.rd
      rw [HSP.out.eq] at hnum
      have HNU := Lib.hid hnum
      have HG := Lib.hid (And.intro hg hb1)
      clear HRD hnum hg hb1
      go_wp2_with fail
      refine HNU.out.mono ?_
      rintro e2 w2 hd
      have hbl2 := hd.below HG.out.2 HG.out.2.size HG.out.1.ge
      obtain ⟨rfl, hrd, -⟩ := hd
      have HLF := Lib.hid (rleft_any w2 g _ hrd)
      have HER := Lib.hid (rerr_any w2 g _ hrd)
      have HB2 := Lib.hid hbl2
      clear HNU HG hrd hbl2
      simp only at HLF HER
      go_wp2_with fail
      refine HLF.out.mono ?_
      rintro e3 w3 ⟨rfl, rfl⟩
      have hsub : (0 : Int) ≤ (b.length : Int) - (r.length : Int) := by omega
      go_wp2_with fail
      refine HER.out.mono ?_
      rintro e3 w3 ⟨rfl, rfl⟩
      have HB : Hid (Below w.heap.size w w2) := HJ.out.2.2.2.2.trans (HB2.out.mono HJ.out.2.2.2.2.size)
      rcases Classical.em (e = 0) with he | he
      · subst he
        go_wp2_with fail
        refine HLF.out.mono ?_
        rintro e3 w3 ⟨rfl, rfl⟩
        rcases Classical.em (4 ≤ r.length) with h4 | h4
        · have hr4 : ¬ (r.length : Int) < 4 := by omega
          have hr40 : (0 : Int) ≤ (r.length : Int) - 4 := by omega
          go_wp2_with fail
          refine HLF.out.mono ?_
          rintro e3 w3 ⟨rfl, rfl⟩
          rcases Classical.em (n ≤ r.length - 4) with hn | hn
          · have hn1 : ¬ ((r.length : Int) - 4 < (n : Int)) := by omega
            obtain ⟨As, cs, hsl, hrs, hcs1, hcs2, -⟩ := cut_lh HJ.out.1 b.length c1 ((b.length : Int) - (r.length : Int) + 4) ((b.length : Int) - (r.length : Int) + 4 + (n : Int)) (b.length - r.length + 4) n (by omega) (by omega) (by omega)
            have HRS : Hid (BRow w As ((r.drop 4).take n) ∧ n ≤ cs) := by
              refine ⟨?_, hcs1⟩
              have e := HSP.out.rest rfl
              rw [← List.drop_drop, e] at hrs
              exact hrs
            have hsn : ((r.drop 4).take n).length = n := by simp; omega
            have HSN := Lib.hid hsn
            have HFR := Lib.hid (HSP.out.bad HNE.out rfl h4 hn)
            have HST := Lib.hid (HSP.out.step HNE.out rfl h4 hn)
            clear hrs hsn
            generalize (r.drop 4).take n = s at HRS HSN HFR HST
            have hend : ((b.length : Int) - (r.length : Int) + 4 + (n : Int)).toNat = b.length - r.length + 4 + n := by omega
            go_wp2_with fail
            clear hsl
            have hfr := frame_any w2.drew As cs s ((HRS.out.1.below HB.out).drew) (by rw [HSN.out]; omega)
            rw [HSN.out] at hfr
            have HFC := Lib.hid hfr
            clear hfr
            have htl : (b.take (b.length - r.length + 4 + n)).length = b.length - r.length + 4 + n := by rw [List.length_take]; omega
            have HBT : Hid (BRow w A1 (b.take (b.length - r.length + 4 + n))) := HJ.out.1.take _
            have hcv1 := cv_any (c := c1) ((HBT.out.below HB.out).drew) htl
            have HTL := Lib.hid htl
            clear htl
            refine wp_region_plan (.take 0 (.take 3 (.take 4 (.take 5 (.take 6 (.run 1 [3, 4, 5, 6] (.take 2 (.take 7 .fin)))))))) (by kernel_rfl) (by kernel_rfl) (by kernel_rfl) (by kernel_rfl) ?_
            simp only [walk, again, sel, List.getElem?_toArray, List.getElem?_cons_zero, List.getElem?_cons_succ]
            repeat ((with_reducible intro Z hZ); go_wp2_with (fail))
            refine HFC.out.mono ?_
            rintro e4 w4 ⟨A4, c4, rfl, ho4, hb4⟩
            have HB4 : Hid (Below w.heap.size w w4) := HB.out.trans ((Below.refl _ w2).drewR.trans hb4 |>.mono HB.out.size)
            have HO4 : Hid (Below wr.heap.size wr w4) := HB2.out.trans ((Below.refl _ w2).drewR.trans hb4 |>.mono HB2.out.size)
            have hcv1 := cv_any (c := c1) (HBT.out.below HB4.out) HTL.out
            have hcv2 := run_string_bytes w4 c4 ho4.row
            unfold txt at hcv2
            clear ho4 hb4 HLF HER HFC HBT
            rcases Classical.em (Wal.frame s = b.take (b.length - r.length + 4 + n)) with hq | hq
            · have hq1 : (Wal.frame s == b.take (b.length - r.length + 4 + n)) = true := by simpa using hq
              have HE2 : Hid (R = joinR (done ++ [s]) (Wal.records (r.drop (4 + n)))) := by show _ = _; rw [HJ.out.2.1, HST.out hq, joinR_joinR]
              clear HFR HST hq
              have hcl := clone_any w4 As cs s (HRS.out.1.below HB4.out) (by rw [HSN.out]; omega)
              rw [HSN.out] at hcl
              have HCL := Lib.hid hcl
              clear hcl
              have hdr : b.drop (b.length - r.length + 4 + n) = r.drop (4 + n) := by rw [Nat.add_assoc, ← List.drop_drop, HSP.out.rest rfl]
              have HDR := Lib.hid hdr
              clear hdr
              obtain ⟨An, cn, hsl2, hrn, hcn1, hcn2, -⟩ := cut_l HJ.out.1 c1 ((b.length : Int) - (r.length : Int) + 4 + (n : Int)) (b.length - r.length + 4 + n) (by omega) (by omega) hbc
              rw [HDR.out] at hrn
              have HRN := Lib.hid hrn
              have hdl : (r.drop (4 + n)).length = b.length - (b.length - r.length + 4 + n) := by rw [List.length_drop]; omega
              have HDL := Lib.hid hdl
              clear hrn hdl
              go_wp2_with fail
              repeat ((with_reducible intro Z hZ); go_wp2_with (fail))
              refine HCL.out.mono ?_
              rintro e5 w5 ⟨A5, c5, rfl, ho5, hb5⟩
              have HB5 : Hid (Below w.heap.size w w5) := HB4.out.trans (hb5.mono HB4.out.size)
              have HP5 : Hid (EOwn ePart w5 w.heap.size Ao co ps ∧ PartsX S w5 (ps ++ [⟨A5, c5, s⟩]) (done ++ [s])) := by
                refine ⟨(HJ.out.2.2.1.below HO4.out).below hb5, ((HJ.out.2.2.2.1.below HO4.out).below hb5).snoc (p := ⟨A5, c5, s⟩) ⟨ho5.row, by show s.length ≤ _; rw [HSN.out]; omega⟩ fun a ha => ⟨fun hs => ?_, ho5.u8 a ha⟩⟩
                have h1 := (ho5.block a ha).1
                have h2 := HS.out _ hs
                have h3 := HB4.out.size
                omega
              clear ho5 hb5 HCL hcv1 hcv2
              go_wp2_with (at_builtin; refine wpList_append_elems ePart rfl (.tmp 56) (.tmp 59) rfl _ rfl (HP5.out.1.alloc _) rfl _ rfl (ERow.lit ePart w5 ⟨A5, c5, s⟩ _ rfl _ rfl) rfl (by simp; omega) (by have := HB5.out.size; simp; omega) ?_; intro A6 c6 w6 ho6 hb6 hg6 _; have HP6 := Lib.hid ((HP5.out.2.below (Below.alloc1 w5 _)).keptE (HP5.out.1.alloc _) (by decide) hg6); clear hg6)
              have HB6 : Hid (Below w.heap.size w w6) := (HB5.out.alloc HB5.out.size _).trans hb6
              go_roundw
              case rel => exact ⟨r.drop (4 + n), An, cn, done ++ [s], ps ++ [⟨A5, c5, s⟩], A6, c6, by rw [HDL.out], by simp, by rw [HDL.out]; omega, by rw [HDL.out]; omega, by omega, by simp [HDL.out]; omega, HRN.out, HE2.out, ho6, HP6.out, HB6.out⟩
              case measure => simp; omega
            · have hq1 : (Wal.frame s == b.take (b.length - r.length + 4 + n)) = false := by simpa using hq
              have HE2 : Hid (R = ([], 20)) := by show _ = _; rw [HJ.out.2.1, HFR.out hq, joinR_err (by decide)]
              clear HFR HST hq
              go_wp2_with fail
              repeat ((with_reducible intro Z hZ); go_wp2_with (fail))
              go_wp2_with fail
              go_ret2
              exact ret_noparts HE2.out HB4.out
          · have HE := HSP.out.form HNE.out (.inr (.inr (by omega)))
            have HE2 : Hid (R = ([], 7)) := by show _ = _; rw [HJ.out.2.1, HE, joinR_err (by decide)]
            have hn1 : ((r.length : Int) - 4 < (n : Int)) := by omega
            clear HE
            go_wp2_with fail
            go_ret2
            exact ret_noparts HE2.out HB.out
        · have HE := HSP.out.form HNE.out (.inr (.inl (by omega)))
          have HE2 : Hid (R = ([], 7)) := by show _ = _; rw [HJ.out.2.1, HE, joinR_err (by decide)]
          have hr4 : (r.length : Int) < 4 := by omega
          clear HE
          go_wp2_with fail
          go_ret2
          exact ret_noparts HE2.out HB.out
      · have he1 : (e != 0) = true := by simpa using he
        have HE := HSP.out.form HNE.out (.inl he)
        have HE2 : Hid (R = ([], 7)) := by show _ = _; rw [HJ.out.2.1, HE, joinR_err (by decide)]
        clear HE
        go_wp2_with fail
        go_ret2
        exact ret_noparts HE2.out HB.out
end Go.Proofs.Ythbanhedjfpmaaa
end

section
/-
  copy of bytes into bytes of the call's own.
-/
namespace Go.Proofs.Ythbanhedjfpmaaa
set_option linter.unusedSimpArgs false
set_option linter.unusedVariables false
open Go.RowKit

theorem wpList_copy_bytes0 {w : World} {B c c' : Nat} {A A' : Option Addr} {l m : List UInt8} {ops : Array Oper} {rest : List Oper} {o : Oper} {a : Act} {Q : Exit → Act → World → Prop} (hgd : o.guard = none) (d s : Operand)
    (hop : o.op = .call { callee := .builtin .copy, args := #[d, s], argTypes := #[33, 33] }) (n k : Nat) (hd : a.eval d = .slice A n c) (hs : a.eval s = .slice A' k c') (hn : n = l.length) (hk : k = m.length)
    (ho : BOwn w B A c l) (hr : BRow w A' m)
    (h : ∀ w', BOwn w' B A c (m.take l.length ++ l.drop (m.take l.length).length) → w.grownBy w' (A.map (·.block)) → wpList Try.prog ops Q rest (a.put o.dst (goInt (m.take l.length).length)) w') : wpList Try.prog ops Q (o :: rest) a w := by
  subst hn hk
  have hmin : Nat.min m.length l.length = (m.take l.length).length := by rw [List.length_take, Nat.min_comm]
  have htl : (m.take l.length).length ≤ l.length := by rw [List.length_take]; omega
  have hr2 := hr.take l.length
  generalize m.take l.length = m2 at hmin htl hr2 h
  cases hm0 : m2 with
  | nil =>
    subst hm0
    refine wpList_copy_nothing hgd d s _ _ hop 5 Try.underlying33 (by kernel_rfl) A A' _ _ _ _ hd hs hmin ?_
    exact h w (by simpa using ho) (World.grownBy.refl w _)
  | cons x m' =>
    have hpos : 0 < m2.length := by rw [hm0]; simp
    obtain ⟨b, o', rfl, hlt, hc⟩ := hr2 (by simpa using hpos)
    rcases ho.form with ⟨_, _, rfl⟩ | ⟨g, rfl, _, _, _, _⟩
    · rw [List.length_nil] at htl; omega
    · have hrun := run_copy_cells (P := Try.prog) w 33 33 o.type 5 g 0 l.length c ⟨b, o', none⟩ m.length c' (m2.map bv) Try.underlying33 (by kernel_rfl) (by rw [List.length_map, hmin]) (fun j u hu => by
          obtain ⟨hj, he⟩ := List.getElem?_eq_some_iff.1 hu
          rw [Addr.add_lit, hc j hj, he]) (fun j hj => by
          rw [Nat.zero_add, ho.cell (by simp at hj; omega)]; rfl) (fun j hj => ho.free _) (one_bytes m2)
      refine wpList_runv hgd (exec_copy hop hd hs hrun) ?_
      rw [List.length_map]
      refine h _ ?_ (grown_setCells w g 0 _)
      exact BOwn.setCells m2 [] l ho htl
theorem wpList_copy_bytes {w : World} {B c c' : Nat} {A A' : Option Addr} {l m : List UInt8} {ops : Array Oper} {rest : List Oper} {o : Oper} {a : Act} {Q : Exit → Act → World → Prop} (hgd : o.guard = none) (d s : Operand)
    (hop : o.op = .call { callee := .builtin .copy, args := #[d, s], argTypes := #[33, 33] }) (n k : Nat) (hd : a.eval d = .slice A n c) (hs : a.eval s = .slice A' k c') (hn : n = l.length) (hk : k = m.length)
    (ho : BOwn w B A c l) (hr : BRow w A' m) (hm : m.length ≤ l.length)
    (h : ∀ w', BOwn w' B A c (m ++ l.drop m.length) → w.grownBy w' (A.map (·.block)) → wpList Try.prog ops Q rest (a.put o.dst (goInt m.length)) w') : wpList Try.prog ops Q (o :: rest) a w := by
  have e : m.take l.length = m := List.take_of_length_le hm
  refine wpList_copy_bytes0 hgd d s hop n k hd hs hn hk ho hr ?_
  rw [e]
  exact h
end Go.Proofs.Ythbanhedjfpmaaa
end

section
/-
  The contract of the law's lives.
-/
namespace Go.Proofs.Ythbanhedjfpmaaa
set_option linter.unusedSimpArgs false
set_option linter.unusedVariables false
open Go.RowKit

theorem DL.writeB {w0 w : World} {k : KB} {d : DS} {n : Nat} (h : DL w0 w k d n) (hn : n < 1000000) (i : Int) (A : Option Addr) (c : Nat) (l : List UInt8) (hl : l.length = 512) (hr : BRow w A l) :
    Calls Try.prog 17 #[.pointer (some ⟨k.gd, 0, none⟩), .int .i64 i, .slice A 512 c] w fun e w' => e = .returned (.int .i64 (d.write i l).2) ∧ DL w0 w' k (d.write i l).1 (n + 1) ∧ Keeps w w' k.own := by
  rw [← hl]; exact h.write hn i A c l hr
theorem write_fill (d : DS) (i : Int) (c : UInt8) (s : List UInt8) (h : d.why i = 0) : d.write i (fillL c s) = d.put i.toNat (fillB c s) := by
  unfold DS.write
  rw [if_neg (by simp [h]), dif_pos (fillL_length c s)]
  rfl
section
variable (z x y : B512)
def liveD1 (z x : B512) : DS := ⟨[⟨z, z⟩, ⟨x, z⟩], [⟨1, x⟩], [], 1, false⟩
def liveD2 (z x : B512) : DS := ⟨[⟨z, z⟩, ⟨x, x⟩], [], [], 2, false⟩
def liveD3 (z x y : B512) : DS := ⟨[⟨z, z⟩, ⟨y, x⟩], [⟨1, y⟩], [], 3, false⟩
def liveD4 (z x y : B512) : DS := ⟨[⟨z, z⟩, ⟨y.over x 2, y.over x 2⟩], [], [], 3, true⟩
theorem live_1 : (⟨[⟨z, z⟩, ⟨z, z⟩], [], [], 0, false⟩ : DS).put 1 x = (liveD1 z x, 0) := by rfl
theorem live_2 : (liveD1 z x).flush = (liveD2 z x, 0) := by rfl
theorem live_3 : (liveD2 z x).put 1 y = (liveD3 z x y, 0) := by rfl
theorem live_4 : (liveD3 z x y).crash ⟨0, 0, 2⟩ = liveD4 z x y := by rfl
end
theorem live_5 : ((fillB 121 []).over (fillB 120 []) 2).l = fillL 120 [121, 121] := by
  show (fillL 121 []).take 2 ++ (fillL 120 []).drop 2 = _
  rfl
end Go.Proofs.Ythbanhedjfpmaaa
end

section
/-
  Data that came in: rows of elements of any kind, bytes, numbers.
-/
namespace Go.Proofs.Ythbanhedjfpmaaa
set_option linter.unusedSimpArgs false
set_option linter.unusedVariables false
open Go.RowKit Go.Deep Go.WideShapes Go.ChangeShapes

section
variable {H : Type} {enc : TypeId × Value → H} {w : World} {base : Nat} {spare : Nat → Bool} {held : Bool} {fuel : Nat} {cs : List Value} {x : DataW H × List MemPlace}
theorem open_elems {α : Type} [Inhabited α] (E : Elem α) (hce : Try.prog.cellsOf E.e = E.sz) (Deep : α → Prop)
    (hopen : ∀ fuel cs x, DataW.trod enc Try.prog w base spare held fuel E.e cs = some x → cs.length = E.sz → ∃ a, cs = E.code a ∧ Deep a)
    (h : DataW.trod enc Try.prog w base spare held fuel E.t cs = some x) : ∃ A L c, cs = [.slice A (List.length L) c] ∧ ERow E w A L ∧ (∀ a ∈ L, Deep a) ∧ L.length ≤ c ∧ c ≤ maxLen := by
  rcases open_slice E.under h with ⟨rfl, _⟩ | ⟨a, len, cap, m, n, D, Pl, rfl, _, hl, hm, hmm, _, hx⟩
  · exact ⟨none, [], 0, rfl, ERow.nil, by simp, by simp, Nat.zero_le _⟩
  · have hlm : len ≤ m := by rw [hmm]; split <;> omega
    have each : ∀ i, i < len → ∃ y : α, (∀ k, k < E.sz → w.cell? (a.add (i * E.sz + k)) = (E.code y)[k]?) ∧ Deep y := by
      intro i hi
      obtain ⟨cs', h1, h2⟩ := hx i (by omega)
      rw [hce] at h1
      obtain ⟨_, hlen, hcell⟩ := World.cells?_some h1
      obtain ⟨y, rfl, hd⟩ := hopen _ _ _ h2 hlen
      refine ⟨y, fun k hk => ?_, hd⟩
      rw [← hcell k hk, add_add]
    obtain ⟨f, hf⟩ := choose_lt each
    refine ⟨some a, (List.range len).map f, cap, by simp, fun hpos => ?_, ?_, by simpa using hl, hm⟩
    · have hpos' : 0 < len := by simpa using hpos
      have h0 := (hf 0 hpos').1 0 E.pos
      have hl0 : 0 < (E.code (f 0)).length := by rw [E.len]; exact E.pos
      rw [List.getElem?_eq_getElem hl0] at h0
      obtain ⟨b, o, sp⟩ := a
      have hsp : sp = none := by simpa [Addr.add] using World.cell?_spot h0
      subst hsp
      refine ⟨b, o, rfl, by have := World.block_lt_of_cell? w _ h0; simpa [Addr.add] using this, fun j u hu => ?_⟩
      have hj := (List.getElem?_eq_some_iff.1 hu).1
      rw [Elem.cells_length] at hj
      have hj' : j < len * E.sz := by simpa using hj
      have hd : j / E.sz < len := Nat.div_lt_of_lt_mul (by rw [Nat.mul_comm]; exact hj')
      rw [E.cells_get' _ j hj] at hu
      have h2 := (hf (j / E.sz) hd).1 (j % E.sz) (Nat.mod_lt _ E.pos)
      rw [Nat.mul_comm, Nat.div_add_mod] at h2
      rw [Addr.add_lit] at h2
      rw [h2]
      simpa using hu
    · intro y hy
      obtain ⟨r, hr, rfl⟩ := List.mem_map.1 hy
      exact (hf r (List.mem_range.1 hr)).2
theorem open_bytes (h : DataW.trod enc Try.prog w base spare held fuel 33 cs = some x) : ∃ A l c, cs = [.slice A (List.length l) c] ∧ BRow w A l ∧ l.length ≤ c ∧ c ≤ maxLen := by
  rcases open_ints Try.underlying33 Try.underlying5 (by kernel_rfl) h with ⟨rfl, _⟩ | ⟨x, l, c, zs, rfl, _, hl, hm, hz, _, hcell, hwz⟩
  · exact ⟨none, [], 0, rfl, BRow.nil, by simp, Nat.zero_le _⟩
  · obtain ⟨l', e, hr⟩ : ∃ l' : List UInt8, l'.length = l ∧ BRow w (some x) l' := by
      have hzl : l ≤ zs.length := by rw [hz]; split <;> omega
      refine ⟨(zs.take l).map fun n => UInt8.ofNat n.toNat, by simp; omega, fun h => ?_⟩
      have hpos : 0 < zs.length := by simp at h; omega
      have h0 := hcell 0 hpos
      obtain ⟨b, o, sp⟩ := x
      have hsp : sp = none := by simpa [Addr.add] using World.cell?_spot h0
      subst hsp
      refine ⟨b, o, rfl, World.block_lt_of_cell? w _ h0, fun j hj => ?_⟩
      have hj' : j < zs.length := by simp at hj; omega
      have := hcell j hj'
      rw [Addr.add_lit] at this
      rw [this]
      have hw := hwz zs[j] (List.getElem_mem hj')
      have hb : 0 ≤ zs[j] ∧ zs[j] ≤ 255 := by
        simp [Lit.wf, IntKind.min, IntKind.max, IntKind.signed, IntKind.bits] at hw
        omega
      simp [bv, hj']
      omega
    subst e
    exact ⟨some x, l', c, rfl, hr, hl, hm⟩
theorem open_i64 {t : TypeId} (ht : Try.prog.underlying t = some (.int .i64)) (h : DataW.trod enc Try.prog w base spare held fuel t cs = some x) : ∃ n : Int, cs = [.int .i64 n] ∧ -9223372036854775808 ≤ n ∧ n ≤ 9223372036854775807 := by
  obtain ⟨n, rfl, _, hw⟩ := DataW.trod_int ht h
  simp [Lit.wf, IntKind.min, IntKind.max, IntKind.signed, IntKind.bits] at hw
  exact ⟨n, rfl, hw.1, hw.2⟩
end
end Go.Proofs.Ythbanhedjfpmaaa
end

section
/-
  The Ops of dowserlaw03 that came in.
-/
namespace Go.Proofs.Ythbanhedjfpmaaa
set_option linter.unusedSimpArgs false
set_option linter.unusedVariables false
open Go.RowKit Go.Deep Go.WideShapes Go.ChangeShapes

/-- A thing of a script. -/
structure OpD where
  k : Int
  at_ : Int
  c : UInt8
  s : List UInt8
  long : Bool
  f : DF
  A : Option Addr
  cap : Nat
  fs : List DF
instance : Inhabited OpD := ⟨⟨0, 0, 0, [], false, ⟨0, 0, 0⟩, none, 0, []⟩⟩
def eOpD : Elem OpD where
  e := 36
  t := 22
  sz := 9
  bytes := 96
  zero := .agg #[.int .i64 0, .int .i64 0, .int .u8 0, .string ⟨#[]⟩, .bool false, .int .i64 0, .int .u64 0, .int .i64 0, .slice none 0 0]
  code := fun o => [.int .i64 o.k, .int .i64 o.at_, bv o.c, txt o.s, .bool o.long, .int .i64 o.f.at_, .int .u64 (o.f.keep : Nat), .int .i64 o.f.torn, .slice o.A o.fs.length o.cap]
  pos := by decide
  few := by decide
  len := fun _ => rfl
  one := by
    intro x u hu
    simp at hu
    rcases hu with rfl | rfl | rfl | rfl | rfl | rfl | rfl | rfl | rfl <;> rfl
  zsz := rfl
  info := by kernel_rfl
  under := Try.underlying22
def i64B (n : Int) : Prop := -9223372036854775808 ≤ n ∧ n ≤ 9223372036854775807
def DF.Fine (f : DF) : Prop := f.keep < 18446744073709551616 ∧ i64B f.torn
/-- What is known of one. -/
structure OpD.Fine (w : World) (o : OpD) : Prop where
  k : i64B o.k
  at_ : i64B o.at_
  s : o.s.length ≤ maxLen
  f : o.f.Fine
  row : ERow eDF w o.A o.fs
  fs : ∀ f ∈ o.fs, f.Fine
  len : o.fs.length ≤ o.cap
  cap : o.cap ≤ maxLen
def ScriptD (w : World) (v : Value) : Prop := ∃ A c L, v = .slice A (List.length L) c ∧ ERow eOpD w A L ∧ (∀ o ∈ L, o.Fine w) ∧ L.length ≤ c ∧ c ≤ maxLen
section
variable {H : Type} {enc : TypeId × Value → H} {w : World} {base : Nat} {spare : Nat → Bool} {held : Bool} {fuel : Nat} {cs : List Value} {x : DataW H × List MemPlace}
theorem open_u64 {t : TypeId} (ht : Try.prog.underlying t = some (.int .u64)) (h : DataW.trod enc Try.prog w base spare held fuel t cs = some x) : ∃ n : Nat, cs = [.int .u64 (n : Int)] ∧ n < 18446744073709551616 := by
  obtain ⟨n, rfl, _, hw⟩ := DataW.trod_int ht h
  simp [Lit.wf, IntKind.min, IntKind.max, IntKind.signed, IntKind.bits] at hw
  obtain ⟨m, rfl⟩ : ∃ m : Nat, n = (m : Int) := ⟨n.toNat, by omega⟩
  exact ⟨m, rfl, by omega⟩
theorem open_u8 {t : TypeId} (ht : Try.prog.underlying t = some (.int .u8)) (h : DataW.trod enc Try.prog w base spare held fuel t cs = some x) : ∃ c : UInt8, cs = [bv c] := by
  obtain ⟨n, rfl, _, hw⟩ := DataW.trod_int ht h
  simp [Lit.wf, IntKind.min, IntKind.max, IntKind.signed, IntKind.bits] at hw
  refine ⟨UInt8.ofNat n.toNat, ?_⟩
  simp [bv]
  omega
set_option maxRecDepth 20000 in
theorem open_fall (h : DataW.trod enc Try.prog w base spare held fuel 25 cs = some x) (hlen : cs.length = 3) : ∃ f : DF, cs = eDF.code f ∧ f.Fine := by
  obtain ⟨xs, k, rfl, rfl, _, hxl, hfs⟩ := DataW.trod_struct Try.underlying25 h
  match xs, hxl, cs, hlen with
  | [y0, y1, y2], _, [v0, v1, v2], _ =>
    have g0 := hfs 0 _ rfl
    have g1 := hfs 1 _ rfl
    have g2 := hfs 2 _ rfl
    obtain ⟨n0, e0, b0⟩ := open_i64 Try.underlying3 (by simpa using g0)
    obtain ⟨n1, e1, b1⟩ := open_u64 Try.underlying23 (by simpa using g1)
    obtain ⟨n2, e2, b2⟩ := open_i64 Try.underlying3 (by simpa using g2)
    have q3 : Try.prog.cellsOf 3 = 1 := by kernel_rfl
    have q4 : Try.prog.cellsOf 23 = 1 := by kernel_rfl
    have e0' : v0 = .int .i64 n0 := by simpa [q3] using e0
    have e1' : v1 = .int .u64 (n1 : Int) := by simpa [q4] using e1
    have e2' : v2 = .int .i64 n2 := by simpa [q3] using e2
    subst e0' e1' e2'
    exact ⟨⟨n0, n1, n2⟩, rfl, b1, b2⟩
set_option maxRecDepth 20000 in
theorem open_opd (h : DataW.trod enc Try.prog w base spare held fuel 36 cs = some x) (hlen : cs.length = 9) : ∃ o : OpD, cs = eOpD.code o ∧ o.Fine w := by
  obtain ⟨xs, k, rfl, rfl, _, hxl, hfs⟩ := DataW.trod_struct Try.underlying36 h
  match xs, hxl, cs, hlen with
  | [y0, y1, y2, y3, y4, y5, y6], _, [v0, v1, v2, v3, v4, v5, v6, v7, v8], _ =>
    have g0 := hfs 0 _ rfl
    have g1 := hfs 1 _ rfl
    have g2 := hfs 2 _ rfl
    have g3 := hfs 3 _ rfl
    have g4 := hfs 4 _ rfl
    have g5 := hfs 5 _ rfl
    have g6 := hfs 6 _ rfl
    have g6' := g6
    simp at g6'
    have q3 : Try.prog.cellsOf 3 = 1 := by kernel_rfl
    have q4 : Try.prog.cellsOf 5 = 1 := by kernel_rfl
    have q5 : Try.prog.cellsOf 9 = 1 := by kernel_rfl
    have q6 : Try.prog.cellsOf 4 = 1 := by kernel_rfl
    have q7 : Try.prog.cellsOf 25 = 3 := by kernel_rfl
    have q8 : Try.prog.cellsOf 34 = 1 := by kernel_rfl
    obtain ⟨n0, e0, b0⟩ := open_i64 Try.underlying3 (by simpa using g0)
    obtain ⟨n1, e1, b1⟩ := open_i64 Try.underlying3 (by simpa using g1)
    obtain ⟨n2, e2⟩ := open_u8 Try.underlying5 (by simpa using g2)
    obtain ⟨n3, e3, _, b3⟩ := DataW.trod_string Try.underlying9 (by simpa using g3)
    obtain ⟨n4, e4, _⟩ := DataW.trod_bool Try.underlying4 (by simpa using g4)
    obtain ⟨n5, e5, b5⟩ := open_fall (by simpa using g5) (by simp [q7])
    obtain ⟨A, L, c, e6, r6, d6, l6, m6⟩ := open_elems eDF (by kernel_rfl) DF.Fine (fun fuel cs x h hlen => open_fall h hlen) g6'
    have e0' : v0 = .int .i64 n0 := by simpa [q3] using e0
    have e1' : v1 = .int .i64 n1 := by simpa [q3] using e1
    have e2' : v2 = bv n2 := by simpa [q4] using e2
    have e3' : v3 = .string n3 := by simpa [q5] using e3
    have e4' : v4 = .bool n4 := by simpa [q6] using e4
    have e5' : [v5, v6, v7] = eDF.code n5 := by simpa [q7] using e5
    have e6' : v8 = .slice A L.length c := by simpa [q8] using e6
    subst e0' e1' e2' e3' e4' e6'
    obtain ⟨f0, f1, f2⟩ := n5
    simp [eDF] at e5'
    obtain ⟨rfl, rfl, rfl⟩ := e5'
    exact ⟨⟨n0, n1, n2, n3.data.toList, n4, ⟨f0, f1, f2⟩, A, c, L⟩, rfl, b0, b1, by rw [← Lib.size_eq]; exact b3, b5, r6, d6, l6, m6⟩
end
set_option maxRecDepth 20000 in
theorem opd_in {H : Type} {enc : TypeId × Value → H} {w : World} {base : Nat} {v : Value} {d : DataW H} {p : List MemPlace}
    (_hv : Value.okWide Try.prog w .any base 22 v) (h : DataW.Trod enc Try.prog w 0 (fun _ => true) true 22 v d p) : ScriptD w v := by
  obtain ⟨a0, len0, cap0, rfl⟩ := okWide_slice Try.underlying22 _hv
  obtain ⟨fuel, hf⟩ := h
  obtain ⟨A, L, c, h1, h2, h3, h4, h5⟩ := open_elems eOpD (by kernel_rfl) (OpD.Fine w) (fun fuel cs x h hlen => open_opd h hlen) hf
  simp [Value.cells] at h1
  obtain ⟨rfl, rfl, rfl⟩ := h1
  exact ⟨_, _, L, rfl, h2, h3, h4, h5⟩
end Go.Proofs.Ythbanhedjfpmaaa
end

section
/-
  The contract of the law's fits.
-/
namespace Go.Proofs.Ythbanhedjfpmaaa
set_option linter.unusedSimpArgs false
set_option linter.unusedVariables false
open Go.RowKit

theorem opd_at {w : World} {A : Option Addr} {L : List OpD} (h : ERow eOpD w A L) {i : Nat} (hi : i < L.length) : ∃ b o, A = some ⟨b, o, none⟩ ∧ b < w.heap.size ∧
    (w.cell? ⟨b, o + i * 9, none⟩ = some (.int .i64 L[i].k) ∧ w.cell? ⟨b, o + i * 9 + 1, none⟩ = some (.int .i64 L[i].at_) ∧ w.cell? ⟨b, o + i * 9 + 2, none⟩ = some (.int .u8 (L[i].c.toNat : Int)) ∧
    w.cell? ⟨b, o + i * 9 + 3, none⟩ = some (txt L[i].s) ∧ w.cell? ⟨b, o + i * 9 + 4, none⟩ = some (.bool L[i].long) ∧ w.cell? ⟨b, o + i * 9 + 5, none⟩ = some (.int .i64 L[i].f.at_) ∧
    w.cell? ⟨b, o + i * 9 + 6, none⟩ = some (.int .u64 (L[i].f.keep : Nat)) ∧ w.cell? ⟨b, o + i * 9 + 7, none⟩ = some (.int .i64 L[i].f.torn) ∧ w.cell? ⟨b, o + i * 9 + 8, none⟩ = some (.slice L[i].A L[i].fs.length L[i].cap)) := by
  obtain ⟨b, o, e, hb, hc⟩ := h.at_ hi
  exact ⟨b, o, e, hb, hc 0 _ rfl, hc 1 _ rfl, hc 2 _ rfl, hc 3 _ rfl, hc 4 _ rfl, hc 5 _ rfl, hc 6 _ rfl, hc 7 _ rfl, hc 8 _ rfl⟩
def OpD.fit (o : OpD) : Bool := decide (o.s.length ≤ 600) && decide (o.fs.length ≤ 20)
def fitsD (n : Int) (L : List OpD) : Bool := decide (1 ≤ n) && decide (n ≤ 12) && decide (L.length ≤ 60) && L.all OpD.fit
set_option maxRecDepth 20000 in
set_option maxHeartbeats 1000000 in
theorem fits_no (w : World) (n : Int) (A : Option Addr) (c : Nat) (L : List OpD) (h : n < 1 ∨ 12 < n ∨ 60 < L.length) :
    Calls Try.prog 14 #[.int .i64 n, .slice A L.length c] w fun e w' => e = .returned (.bool false) ∧ w = w' := by
  by_cases h1 : n < 1
  · go_enter Try.func14, Try.ntmps14
    go_wp2_with fail
    go_ret
    exact ⟨rfl, rfl⟩
  · by_cases h2 : 12 < n
    · go_enter Try.func14, Try.ntmps14
      go_wp2_with fail
      go_ret
      exact ⟨rfl, rfl⟩
    · have h3 : (60 : Int) < (L.length : Int) := by omega
      go_enter Try.func14, Try.ntmps14
      go_wp2_with fail
      go_ret
      exact ⟨rfl, rfl⟩
set_option maxRecDepth 20000 in
set_option maxHeartbeats 1000000 in
theorem fits_any (w : World) (n : Int) (A : Option Addr) (c : Nat) (L : List OpD) (hr : ERow eOpD w A L) (hf : ∀ o ∈ L, o.s.length ≤ maxLen ∧ o.fs.length ≤ maxLen) :
    Calls Try.prog 14 #[.int .i64 n, .slice A L.length c] w fun e w' => e = .returned (.bool (fitsD n L)) ∧ Below w.heap.size w w' := by
  by_cases hno : n < 1 ∨ 12 < n ∨ 60 < L.length
  · refine (fits_no w n A c L hno).mono fun e w' ⟨he, hw⟩ => ⟨?_, hw ▸ Below.refl _ _⟩
    have : fitsD n L = false := by
      unfold fitsD
      rcases hno with h | h | h
      · rw [decide_eq_false (show ¬ 1 ≤ n by omega)]; simp
      · rw [decide_eq_false (show ¬ n ≤ 12 by omega)]; simp
      · rw [decide_eq_false (show ¬ L.length ≤ 60 by omega)]; simp
    rw [this]; exact he
  · have h1 : ¬ n < 1 := by omega
    have h2 : ¬ 12 < n := by omega
    have h3 : ¬ (60 : Int) < (L.length : Int) := by omega
    have h60 : L.length ≤ 60 := by omega
    have hE : fitsD n L = L.all OpD.fit := by
      unfold fitsD
      rw [decide_eq_true (show 1 ≤ n by omega), decide_eq_true (show n ≤ 12 by omega), decide_eq_true (show L.length ≤ 60 by omega)]; simp
    have HE := Lib.hid hE
    unfold maxLen at hf
    have HR := Lib.hid hr
    have HF := Lib.hid hf
    clear hr hf hno hE
    go_enter Try.func14, Try.ntmps14
    go_wp2_with fail
    go_loopw [20] (fun iv wr => ∃ i : Nat, i ≤ L.length ∧ iv = .int .i64 i ∧ Hid (L.all OpD.fit = (L.drop i).all OpD.fit ∧ Below w.heap.size w wr)) (fun iv _ => L.length - (intOf iv).toNat)
    case atStart => exact ⟨0, by omega, rfl, by simp, Below.refl _ _⟩
    case round =>
      obtain ⟨i, hi, rfl, HS⟩ := hrel
      by_cases hlt : i < L.length
      · obtain ⟨b, o, rfl, hb, hcc⟩ := opd_at (HR.out.below HS.out.2) hlt
        have hlti : (i : Int) < (L.length : Int) := by omega
        have hz := HS.out.2.size
        have hll := HF.out L[i] (List.getElem_mem hlt)
        have HD : Hid ((L.drop i).all OpD.fit = (L[i].fit && (L.drop (i + 1)).all OpD.fit)) := by
          show _ = _
          rw [List.drop_eq_getElem_cons hlt, List.all_cons]
        generalize L[i] = q at hcc hll HD
        have hsz : (ByteArray.mk q.s.toArray).size = q.s.length := by simp [ByteArray.size]
        unfold txt at hcc
        by_cases h600 : 600 < q.s.length
        · have h600i : (600 : Int) < (q.s.length : Int) := by omega
          have HDE : Hid (q.fit = false) := by show _ = _; unfold OpD.fit; rw [decide_eq_false (by omega)]; simp
          go_wp2_with fail
          go_ret
          rw [HE.out, HS.out.1, HD.out, HDE.out]
          exact ⟨by simp, HS.out.2.alloc hz _⟩
        · have h600i : ¬ (600 : Int) < (q.s.length : Int) := by omega
          by_cases h20 : 20 < q.fs.length
          · have h20i : (20 : Int) < (q.fs.length : Int) := by omega
            have HDE : Hid (q.fit = false) := by show _ = _; unfold OpD.fit; rw [decide_eq_false (show ¬ q.fs.length ≤ 20 by omega)]; simp
            go_wp2_with fail
            go_ret
            rw [HE.out, HS.out.1, HD.out, HDE.out]
            exact ⟨by simp, HS.out.2.alloc hz _⟩
          · have h20i : ¬ (20 : Int) < (q.fs.length : Int) := by omega
            have HDE : Hid (q.fit = true) := by show _ = _; unfold OpD.fit; rw [decide_eq_true (show q.fs.length ≤ 20 by omega), decide_eq_true (show q.s.length ≤ 600 by omega)]; simp
            go_wp2_with fail
            go_roundw
            case rel => exact ⟨i + 1, by omega, by go_num, by rw [HS.out.1, HD.out, HDE.out]; simp, HS.out.2.alloc hz _⟩
            case measure => simp [intOf]; omega
      · have hlti : ¬ (i : Int) < (L.length : Int) := by omega
        go_wp2_with fail
        go_ret
        rw [HE.out, HS.out.1, List.drop_eq_nil_of_le (by omega)]
        exact ⟨rfl, HS.out.2⟩
end Go.Proofs.Ythbanhedjfpmaaa
end

section
/-
  DiskSure, the plain part: what writes, a flush, a loss of power leave where no fall is planned.
-/
namespace Go.Proofs.Ythbanhedjfpmaaa
set_option linter.unusedSimpArgs false
set_option linter.unusedVariables false
open Go.RowKit

theorem strike_none {d : DS} (h : d.falls = []) : d.strike = ({ d with changes := d.changes + 1 }, 0) := by
  unfold DS.strike; rw [h]; rfl
theorem write_plain {d : DS} (hf : d.falls = []) (hd : d.down = false) {i : Nat} (hi : i < d.blocks.length) {l : List UInt8} (hl : l.length = 512) :
    d.write (i : Int) l = ({ d with blocks := d.blocks.set i { (d.blocks.getD i default) with now := ⟨l, hl⟩ }, pending := d.pending ++ [⟨(i : Int), ⟨l, hl⟩⟩], changes := d.changes + 1 }, 0) := by
  have hw : d.why (i : Int) = 0 := by unfold DS.why; rw [if_neg (by simp [hd]), if_neg (by omega)]
  unfold DS.write
  rw [if_neg (by simp [hw]), dif_pos hl]
  unfold DS.put
  rw [strike_none (by exact hf), Int.toNat_natCast]
theorem flush_plain {d : DS} (hf : d.falls = []) (hd : d.down = false) : d.flush = (({ d with changes := d.changes + 1 } : DS).settled, 0) := by
  unfold DS.flush
  rw [if_neg (by simp [hd]), strike_none hf, if_neg (by simp)]
/-- Block i as it will surely be. -/
def DS.will (d : DS) (i : Nat) : List UInt8 := ((sureAll d.pending d.blocks).getD i default).sure.l
theorem will_set_now (ws : List DW) : ∀ (L : List DB) (m i : Nat) (b : B512), ((sureAll ws (L.set m { (L.getD m default) with now := b })).getD i default).sure = ((sureAll ws L).getD i default).sure := by
  induction ws with
  | nil =>
    intro L m i b
    show ((L.set m _).getD i default).sure = (L.getD i default).sure
    by_cases h : m = i
    · subst h
      by_cases hm : m < L.length
      · simp [hm]
      · rw [List.set_eq_of_length_le (by omega)]
    · simp [List.getElem?_set_ne h]
  | cons x ws ih =>
    intro L m i b
    show ((sureAll ws _).getD i default).sure = ((sureAll ws _).getD i default).sure
    by_cases h : m = x.at_.toNat
    · subst h
      by_cases hm : x.at_.toNat < L.length
      · simp only [List.set_set]
        have e : ∀ c : DB, (L.set x.at_.toNat c).getD x.at_.toNat default = c := fun c => by simp [hm]
        rw [e]
        have := ih (L.set x.at_.toNat { (L.getD x.at_.toNat default) with sure := x.b }) x.at_.toNat i b
        rw [e] at this
        simp only [List.set_set] at this
        exact this
      · have hs : ∀ c : DB, L.set x.at_.toNat c = L := fun c => List.set_eq_of_length_le (by omega)
        simp only [hs]
    · have e1 : (L.set m { (L.getD m default) with now := b }).getD x.at_.toNat default = L.getD x.at_.toNat default := by simp [List.getElem?_set_ne h]
      rw [e1, List.set_comm _ _ h]
      have e2 : (L.set x.at_.toNat { (L.getD x.at_.toNat default) with sure := x.b }).getD m default = L.getD m default := by simp [List.getElem?_set_ne (fun e => h e.symm)]
      have := ih (L.set x.at_.toNat { (L.getD x.at_.toNat default) with sure := x.b }) m i b
      rw [e2] at this
      exact this
theorem will_write {d : DS} (hf : d.falls = []) (hd : d.down = false) {m : Nat} (hm : m < d.blocks.length) {l : List UInt8} (hl : l.length = 512) (i : Nat) :
    (d.write (m : Int) l).1.will i = if i = m then l else d.will i := by
  rw [write_plain hf hd hm hl]
  unfold DS.will
  simp only [sureAll_snoc, Int.toNat_natCast]
  by_cases h : i = m
  · subst h
    rw [if_pos rfl]
    have hlen : i < (sureAll d.pending (d.blocks.set i { (d.blocks.getD i default) with now := ⟨l, hl⟩ })).length := by rw [sureAll_length, List.length_set]; exact hm
    have e : ∀ (L : List DB) (c : DB), i < L.length → (L.set i c).getD i default = c := fun L c h => by simp [h]
    rw [e _ _ hlen]
  · rw [if_neg h]
    have e : ∀ (L : List DB) (c : DB), (L.set m c).getD i default = L.getD i default := fun L c => by simp [List.getElem?_set_ne (fun e => h e.symm)]
    rw [e, will_set_now]
theorem hitAll_other (f : DF) (n : Int) (i : Nat) : ∀ (ws : List DW) (k : Nat) (L : List DB), (∀ w ∈ ws, w.at_.toNat ≠ i) → (hitAll f n ws k L).getD i default = L.getD i default
  | [], _, _, _ => rfl
  | w :: ws, k, L, h => by
    rw [hitAll, hitAll_other f n i ws (k + 1) _ (fun x hx => h x (List.mem_cons_of_mem _ hx))]
    have := h w List.mem_cons_self
    simp [List.getElem?_set_ne this]
theorem crash_other {d : DS} (hd : d.down = false) (f : DF) {i : Nat} (hi : i < d.blocks.length) (h : ∀ w ∈ d.pending, w.at_.toNat ≠ i) : ((d.crash f).blocks.getD i default).now = (d.blocks.getD i default).sure := by
  have h1 := hitAll_other f ((d.pending.length : Int) - 1) i d.pending 0 d.blocks h
  unfold DS.crash
  rw [if_neg (by simp [hd])]
  have hlen : i < (hitAll f ((d.pending.length : Int) - 1) d.pending 0 d.blocks).length := by rw [hitAll_length]; exact hi
  rw [← h1]
  simp [hlen]
end Go.Proofs.Ythbanhedjfpmaaa
end

section
/-
  DiskSure, plain: what holds of a disk of eight blocks on which nothing is planned; a disk and a law's own arrays.
-/
namespace Go.Proofs.Ythbanhedjfpmaaa
set_option linter.unusedSimpArgs false
set_option linter.unusedVariables false
open Go.RowKit

/-- Eight blocks, no fall is planned, the power is on. -/
structure Calm (d : DS) : Prop where
  falls : d.falls = []
  down : d.down = false
  len : d.blocks.length = 8
theorem Calm.write {d : DS} (h : Calm d) {m : Nat} (hm : m < 8) {l : List UInt8} (hl : l.length = 512) :
    (d.write (m : Int) l).2 = 0 ∧ Calm (d.write (m : Int) l).1 ∧ (∀ i, (d.write (m : Int) l).1.will i = if i = m then l else d.will i) ∧
      (∀ i, ((d.write (m : Int) l).1.blocks.getD i default).sure = (d.blocks.getD i default).sure) ∧ (d.write (m : Int) l).1.pending = d.pending ++ [⟨(m : Int), ⟨l, hl⟩⟩] := by
  have hm' : m < d.blocks.length := by rw [h.len]; exact hm
  have hw := will_write h.falls h.down hm' hl
  rw [write_plain h.falls h.down hm' hl] at hw ⊢
  refine ⟨rfl, ⟨h.falls, h.down, by simpa using h.len⟩, hw, fun i => ?_, rfl⟩
  by_cases e : m = i
  · subst e; simp [hm']
  · simp [List.getElem?_set_ne e]
theorem Calm.flush {d : DS} (h : Calm d) : d.flush.2 = 0 ∧ Calm d.flush.1 ∧ d.flush.1.pending = [] ∧ ∀ i, (d.flush.1.blocks.getD i default).sure.l = d.will i := by
  rw [flush_plain h.falls h.down]
  exact ⟨rfl, ⟨h.falls, h.down, by simp [DS.settled, sureAll_length]; exact h.len⟩, rfl, fun i => rfl⟩
/-- Behind a flush and loose writes: block i, if it was not touched. -/
structure LooseD (d : DS) (ws : List (List UInt8)) (ts : List Bool) : Prop where
  calm : Calm d
  tl : ts.length = 8
  wl : ws.length = 8
  keep : ∀ i, i < 8 → ts.getD i false = false → (d.blocks.getD i default).sure.l = ws.getD i [] ∧ ∀ w ∈ d.pending, w.at_.toNat ≠ i
theorem LooseD.write {d : DS} {ws : List (List UInt8)} {ts : List Bool} (h : LooseD d ws ts) {m : Nat} (hm : m < 8) {l : List UInt8} (hl : l.length = 512) : LooseD (d.write (m : Int) l).1 ws (ts.set m true) := by
  obtain ⟨-, h2, -, h4, h5⟩ := h.calm.write hm hl
  refine ⟨h2, by simpa using h.tl, h.wl, fun i hi ht => ?_⟩
  have hne : m ≠ i := by
    rintro rfl
    rw [List.getD_eq_getElem?_getD, List.getElem?_set_self (by rw [h.tl]; exact hi)] at ht
    cases ht
  rw [List.getD_eq_getElem?_getD, List.getElem?_set_ne hne, ← List.getD_eq_getElem?_getD] at ht
  obtain ⟨k1, k2⟩ := h.keep i hi ht
  refine ⟨by rw [h4]; exact k1, fun w hw => ?_⟩
  rw [h5] at hw
  rcases List.mem_append.1 hw with hw | hw
  · exact k2 w hw
  · simp only [List.mem_singleton] at hw
    subst hw
    simpa using hne
theorem LooseD.crash {d : DS} {ws : List (List UInt8)} {ts : List Bool} (h : LooseD d ws ts) (f : DF) : (d.crash f).blocks.length = 8 ∧ (d.crash f).pending = [] ∧ ∀ i, i < 8 → ts.getD i false = false → ((d.crash f).blocks.getD i default).now.l = ws.getD i [] := by
  refine ⟨by rw [crash_length, h.calm.len], by unfold DS.crash; rw [if_neg (by simp [h.calm.down])], fun i hi ht => ?_⟩
  obtain ⟨k1, k2⟩ := h.keep i hi ht
  rw [crash_other h.calm.down f (by rw [h.calm.len]; exact hi) k2, k1]

/-! A store into a block that is not the disk's. -/
section
variable {w0 w w' : World} {B : Nat} {k : KB} {d : DS} {n g : Nat} {T : TypeId} {cs : List Value}
theorem EOwn.other {α : Type} {E : Elem α} {c : Nat} {A : Option Addr} {L : List α} (h : EOwn E w B A c L) (hb : Blk w g T cs) (hne : T ≠ E.e) (hg : w.grownBy w' (some g)) : EOwn E w' B A c L :=
  h.keep fun a ha => by
    obtain ⟨cur, hk⟩ := h.kind a ha
    refine hg.block _ (h.block a ha).2 ?_
    simp only [ne_eq, Option.some.injEq]
    rintro rfl
    rw [hb] at hk
    simp only [Option.some.injEq, Obj.cells.injEq] at hk
    exact hne hk.2.1
/-- The kinds of a disk's blocks. -/
def notDisk (T : TypeId) : Prop := T ≠ 93 ∧ T ≠ eDB.e ∧ T ≠ eDW.e ∧ T ≠ eDF.e
theorem DiskAt.other (h : DiskAt w B k d) (hb : Blk w g T cs) (hT : notDisk T) (hg : w.grownBy w' (some g)) : DiskAt w' B k d := by
  obtain ⟨t1, t2, t3, t4⟩ := hT
  obtain ⟨⟨cb, np, cp, nf, cf, Ap, Af, h1, h2, h3, h4, h5, h6, h7, h8, h9, h10, h11⟩, lo⟩ := h
  have hne : k.gd ≠ g := by
    rintro rfl
    unfold Blk at hb h6
    rw [hb] at h6
    simp only [Option.some.injEq, Obj.cells.injEq] at h6
    exact t1 h6.2.1
  exact ⟨⟨cb, np, cp, nf, cf, Ap, Af, h1, h2, h3, h4, h5, h6.grown hg (by simpa using hne), h7.other hb t2 hg, h8.other hb t3 hg, h9.other hb t4 hg, h10, h11⟩, lo⟩
theorem DiskAt.notOwn (h : DiskAt w B k d) (hb : Blk w g T cs) (hT : notDisk T) : ¬ k.own g := by
  obtain ⟨t1, t2, t3, t4⟩ := hT
  obtain ⟨⟨cb, np, cp, nf, cf, Ap, Af, h1, h2, h3, h4, h5, h6, h7, -⟩, lo⟩ := h
  rintro (rfl | rfl)
  · unfold Blk at hb h6
    rw [hb] at h6
    simp only [Option.some.injEq, Obj.cells.injEq] at h6
    exact t1 h6.2.1
  · obtain ⟨cur, hk⟩ := h7.kind _ rfl
    rw [hb] at hk
    simp only [Option.some.injEq, Obj.cells.injEq] at hk
    exact t2 hk.2.1
theorem DL.other (h : DL w0 w k d n) (hb : Blk w g T cs) (hT : notDisk T) (hg : w.grownBy w' (some g)) (hlo : w0.heap.size ≤ g) : DL w0 w' k d n :=
  ⟨h.at_.other hb hT hg, h.good, h.ch, h.pe, (Keeps.of_grown hg).below h.bel h.bel.size (fun i hi => by subst hi; exact hlo)⟩
end
theorem nd_str8 : notDisk 32 := by refine ⟨?_, ?_, ?_, ?_⟩ <;> decide
theorem nd_int8 : notDisk 41 := by refine ⟨?_, ?_, ?_, ?_⟩ <;> decide
/-- A disk and an array of eight texts. -/
structure SU (w0 w : World) (k : KB) (d : DS) (n g : Nat) (ws : List (List UInt8)) : Prop where
  dl : DL w0 w k d n
  blk : Blk w g 32 (ws.map txt)
  lo : w0.heap.size ≤ g
  len : ws.length = 8
section
variable {w0 w w' : World} {k : KB} {d d' : DS} {n n' g : Nat} {ws : List (List UInt8)}
theorem SU.below (h : SU w0 w k d n g ws) (hb : Below w.heap.size w w') : SU w0 w' k d n g ws := ⟨h.dl.below hb, h.blk.below hb, h.lo, h.len⟩
theorem SU.disk (h : SU w0 w k d n g ws) (hd : DL w0 w' k d' n') (hk : Keeps w w' k.own) : SU w0 w' k d' n' g ws := ⟨hd, h.blk.kept hk (h.dl.at_.notOwn h.blk nd_str8), h.lo, h.len⟩
theorem SU.set (h : SU w0 w k d n g ws) (i : Nat) (l : List UInt8) : SU w0 (w.setCell ⟨g, i, none⟩ (txt l)) k d n g (ws.set i l) :=
  ⟨h.dl.other h.blk nd_str8 (grown_store w g i _) h.lo, by rw [List.map_set]; exact h.blk.set i _, h.lo, by simpa using h.len⟩
theorem SU.cell (h : SU w0 w k d n g ws) {i : Nat} (hi : i < 8) : w.cell? ⟨g, i, none⟩ = some (txt (ws.getD i [])) ∧ w.frozen? ⟨g, i, none⟩ = false ∧ g < w.heap.size := by
  refine ⟨?_, h.blk.free i, h.blk.lt⟩
  have hlt : i < ws.length := by rw [h.len]; exact hi
  rw [h.blk.cell, List.getElem?_map, List.getElem?_eq_getElem hlt, List.getD_eq_getElem?_getD, List.getElem?_eq_getElem hlt]
  rfl
end
/-- .. and an array of eight marks. -/
structure SV (w0 w : World) (k : KB) (d : DS) (n g : Nat) (ws : List (List UInt8)) (q : Nat) (ts : List Bool) : Prop where
  su : SU w0 w k d n g ws
  blk : Blk w q 41 (ts.map fun b => .int .i64 (if b then 1 else 0))
  lo : w0.heap.size ≤ q
  len : ts.length = 8
section
variable {w0 w w' : World} {k : KB} {d d' : DS} {n n' g q : Nat} {ws : List (List UInt8)} {ts : List Bool}
theorem SV.below (h : SV w0 w k d n g ws q ts) (hb : Below w.heap.size w w') : SV w0 w' k d n g ws q ts := ⟨h.su.below hb, h.blk.below hb, h.lo, h.len⟩
theorem SV.disk (h : SV w0 w k d n g ws q ts) (hd : DL w0 w' k d' n') (hk : Keeps w w' k.own) : SV w0 w' k d' n' g ws q ts := ⟨h.su.disk hd hk, h.blk.kept hk (h.su.dl.at_.notOwn h.blk nd_int8), h.lo, h.len⟩
theorem SV.set (h : SV w0 w k d n g ws q ts) (i : Nat) : SV w0 (w.setCell ⟨q, i, none⟩ (.int .i64 1)) k d n g ws q (ts.set i true) := by
  have hg := grown_store w q i (.int .i64 1)
  have hne : g ≠ q := by
    rintro rfl
    have h1 := h.su.blk
    have h2 := h.blk
    unfold Blk at h1 h2
    rw [h1] at h2
    simp only [Option.some.injEq, Obj.cells.injEq] at h2
    exact absurd h2.2.1 (by decide)
  refine ⟨⟨h.su.dl.other h.blk nd_int8 hg h.lo, h.su.blk.grown hg (by simpa using hne), h.su.lo, h.su.len⟩, ?_, h.lo, by simpa using h.len⟩
  rw [List.map_set]
  exact h.blk.set i _
theorem SV.cell (h : SV w0 w k d n g ws q ts) {i : Nat} (hi : i < 8) : w.cell? ⟨q, i, none⟩ = some (.int .i64 (if ts.getD i false = true then 1 else 0)) ∧ w.frozen? ⟨q, i, none⟩ = false ∧ q < w.heap.size := by
  refine ⟨?_, h.blk.free i, h.blk.lt⟩
  have hlt : i < ts.length := by rw [h.len]; exact hi
  rw [h.blk.cell, List.getElem?_map, List.getElem?_eq_getElem hlt, List.getD_eq_getElem?_getD, List.getElem?_eq_getElem hlt]
  rfl
end
end Go.Proofs.Ythbanhedjfpmaaa
end

section
/-
  The journal in memory; the contract of its 'head'.
-/
namespace Go.Proofs.Ythbanhedjfpmaaa
set_option linter.unusedSimpArgs false
set_option linter.unusedVariables false
open Go.RowKit

/-- A journal's struct. -/
def logCells (k : KB) (l : LS) (A : Option Addr) (c : Nat) : List Value :=
  [.pointer (some ⟨k.gd, 0, none⟩), .int .i64 (l.at_ : Nat), .int .i64 (l.room : Nat), .int .u64 (l.seq : Nat), .slice A l.data.length c, .int .i64 (l.count : Nat), .bool l.broken]
theorem nd_log : notDisk 114 := by refine ⟨?_, ?_, ?_, ?_⟩ <;> decide
/-- Bytes that can be read, in no block of S. -/
structure BRowX (S : Nat → Prop) (w : World) (A : Option Addr) (l : List UInt8) : Prop where
  row : BRow w A l
  off : l ≠ [] → ∀ a, A = some a → ¬ S a.block ∧ isU8 w a.block
theorem BRowX.keepB {S : Nat → Prop} {w w' : World} {A : Option Addr} {l : List UInt8} (h : BRowX S w A l) (hs : w.heap.size ≤ w'.heap.size) (hk : ∀ g, isU8 w g → ¬ S g → w'.heap[g]? = w.heap[g]?) : BRowX S w' A l :=
  ⟨h.row.keepB hs fun hl a ha => hk _ (h.off hl a ha).2 (h.off hl a ha).1, fun hl a ha => by
    obtain ⟨h1, cur, fr, h2⟩ := h.off hl a ha
    exact ⟨h1, cur, fr, (hk _ ⟨cur, fr, h2⟩ h1).trans h2⟩⟩
theorem BRowX.below {S : Nat → Prop} {w w' : World} {A : Option Addr} {l : List UInt8} (h : BRowX S w A l) (hb : Below w.heap.size w w') : BRowX S w' A l := h.keepB hb.size fun _ hg _ => hb.block _ hg.lt
theorem BRowX.kept {S : Nat → Prop} {w w' : World} {A : Option Addr} {l : List UInt8} (h : BRowX S w A l) (hk : Keeps w w' S) : BRowX S w' A l := h.keepB hk.size fun _ hg hS => hk.block _ hg.lt hS
theorem BRowX.blk {S : Nat → Prop} {w w' : World} {A : Option Addr} {l : List UInt8} {g : Nat} {T : TypeId} {cs : List Value} (h : BRowX S w A l) (hb : Blk w g T cs) (hT : T ≠ 5) (hg : w.grownBy w' (some g)) : BRowX S w' A l :=
  h.keepB hg.size fun k hk _ => hg.block k hk.lt (by
    simp only [ne_eq, Option.some.injEq]
    rintro rfl
    obtain ⟨cur, fr, hc⟩ := hk
    rw [hb] at hc
    simp only [Option.some.injEq, Obj.cells.injEq] at hc
    exact hT hc.2.1)
theorem BRowX.nil (S : Nat → Prop) (w : World) (A : Option Addr) : BRowX S w A [] := ⟨BRow.nil, fun h => absurd rfl h⟩
theorem BRowX.own {S : Nat → Prop} {w : World} {B c : Nat} {A : Option Addr} {l : List UInt8} (h : BOwn w B A c l) (hS : ∀ i, S i → i < B) : BRowX S w A l :=
  ⟨h.row, fun _ a ha => ⟨fun hs => by have := (h.block a ha).1; have := hS _ hs; omega, h.u8 a ha⟩⟩
/-- The journal l of the disk k, its struct block g, among the blocks from B on. -/
structure LogAt (w : World) (B : Nat) (k : KB) (g : Nat) (l : LS) : Prop where
  ex : ∃ A c, Blk w g 114 (logCells k l A c) ∧ BRowX k.own w A l.data ∧ l.data.length ≤ c ∧ c ≤ maxLen
  lo : B ≤ g
  own : ¬ k.own g
  good : LGood l
section
variable {w w' : World} {B : Nat} {k : KB} {g : Nat} {l : LS}
theorem LogAt.below (h : LogAt w B k g l) (hb : Below w.heap.size w w') : LogAt w' B k g l := by
  obtain ⟨⟨A, c, h1, h2, h3⟩, lo, own, gd⟩ := h
  exact ⟨⟨A, c, h1.below hb, h2.below hb, h3⟩, lo, own, gd⟩
theorem LogAt.kept (h : LogAt w B k g l) (hk : Keeps w w' k.own) : LogAt w' B k g l := by
  obtain ⟨⟨A, c, h1, h2, h3⟩, lo, own, gd⟩ := h
  exact ⟨⟨A, c, h1.kept hk own, h2.kept hk, h3⟩, lo, own, gd⟩
theorem LogAt.cells (h : LogAt w B k g l) : ∃ A c, (w.cell? ⟨g, 0, none⟩ = some (.pointer (some ⟨k.gd, 0, none⟩)) ∧ w.cell? ⟨g, 1, none⟩ = some (.int .i64 (l.at_ : Nat)) ∧ w.cell? ⟨g, 2, none⟩ = some (.int .i64 (l.room : Nat)) ∧ w.cell? ⟨g, 3, none⟩ = some (.int .u64 (l.seq : Nat)) ∧
    w.cell? ⟨g, 4, none⟩ = some (.slice A l.data.length c) ∧ w.cell? ⟨g, 5, none⟩ = some (.int .i64 (l.count : Nat)) ∧ w.cell? ⟨g, 6, none⟩ = some (.bool l.broken)) ∧
    (w.frozen? ⟨g, 3, none⟩ = false ∧ w.frozen? ⟨g, 4, none⟩ = false ∧ w.frozen? ⟨g, 5, none⟩ = false ∧ w.frozen? ⟨g, 6, none⟩ = false ∧ g < w.heap.size) ∧ BRowX k.own w A l.data ∧ l.data.length ≤ c ∧ c ≤ maxLen := by
  obtain ⟨⟨A, c, h1, h2, h3⟩, lo, own, gd⟩ := h
  exact ⟨A, c, ⟨h1.cell 0, h1.cell 1, h1.cell 2, h1.cell 3, h1.cell 4, h1.cell 5, h1.cell 6⟩, ⟨h1.free 3, h1.free 4, h1.free 5, h1.free 6, h1.lt⟩, h2, h3⟩
theorem LogAt.setSeq (h : LogAt w B k g l) {s : Nat} (hs : s ≤ Wal.last62) : LogAt (w.setCell ⟨g, 3, none⟩ (.int .u64 (s : Nat))) B k g { l with seq := s } := by
  obtain ⟨⟨A, c, h1, h2, h3⟩, lo, own, gd⟩ := h
  exact ⟨⟨A, c, h1.set 3 _, h2.blk h1 (by decide) (grown_store _ _ _ _), h3⟩, lo, own, ⟨gd.at_, gd.room, hs, gd.data, gd.count⟩⟩
theorem LogAt.setBroken (h : LogAt w B k g l) : LogAt (w.setCell ⟨g, 6, none⟩ (.bool true)) B k g { l with broken := true } := by
  obtain ⟨⟨A, c, h1, h2, h3⟩, lo, own, gd⟩ := h
  exact ⟨⟨A, c, h1.set 6 _, h2.blk h1 (by decide) (grown_store _ _ _ _), h3⟩, lo, own, ⟨gd.at_, gd.room, gd.seq, gd.data, gd.count⟩⟩
theorem LogAt.setData (h : LogAt w B k g l) {A : Option Addr} {c : Nat} {b : List UInt8} {n : Nat} (hb : BRowX k.own w A b) (hc : b.length ≤ c) (hm : c ≤ maxLen) (hr : b.length ≤ l.room) (hn : n ≤ b.length) :
    LogAt ((w.setCell ⟨g, 4, none⟩ (.slice A b.length c)).setCell ⟨g, 5, none⟩ (.int .i64 (n : Nat))) B k g { l with data := b, count := n } := by
  obtain ⟨⟨A', c', h1, h2, h3⟩, lo, own, gd⟩ := h
  have hg : w.grownBy ((w.setCell ⟨g, 4, none⟩ (.slice A b.length c)).setCell ⟨g, 5, none⟩ (.int .i64 (n : Nat))) (some g) := (grown_store _ _ _ _).set_ ⟨g, 5, none⟩ rfl _
  exact ⟨⟨A, c, (h1.set 4 _).set 5 _, hb.blk h1 (by decide) hg, hc, hm⟩, lo, own, ⟨gd.at_, gd.room, gd.seq, hr, hn⟩⟩
theorem LogAt.blk (h : LogAt w B k g l) : ∃ cs, Blk w g 114 cs := by
  obtain ⟨⟨A, c, h1, _⟩, _⟩ := h
  exact ⟨_, h1⟩
end
/-- A disk and its journal. -/
structure WL (w0 w : World) (k : KB) (g : Nat) (d : DS) (l : LS) (n : Nat) : Prop where
  dl : DL w0 w k d n
  log : LogAt w w0.heap.size k g l
/-- The blocks of both. -/
def ownL (k : KB) (g : Nat) (i : Nat) : Prop := k.own i ∨ i = g
section
variable {w0 w w' : World} {k : KB} {g n : Nat} {d : DS} {l : LS}
theorem WL.below (h : WL w0 w k g d l n) (hb : Below w.heap.size w w') : WL w0 w' k g d l n := ⟨h.dl.below hb, h.log.below hb⟩
theorem WL.disk {d' : DS} {n' : Nat} (h : WL w0 w k g d l n) (hd : DL w0 w' k d' n') (hk : Keeps w w' k.own) : WL w0 w' k g d' l n' := ⟨hd, h.log.kept hk⟩
theorem WL.store {l' : LS} (h : WL w0 w k g d l n) (hg : w.grownBy w' (some g)) (hl : LogAt w' w0.heap.size k g l') : WL w0 w' k g d l' n := by
  obtain ⟨cs, hb⟩ := h.log.blk
  exact ⟨h.dl.other hb nd_log hg h.log.lo, hl⟩
end
theorem Keeps.own2 {w w' : World} {k : KB} {g : Nat} (h : Keeps w w' k.own) : Keeps w w' (ownL k g) := h.mono fun _ hi => .inl hi
theorem Keeps.then {w w1 w2 : World} {S : Nat → Prop} (h : Keeps w w1 S) (hb : Below w1.heap.size w1 w2) : Keeps w w2 S := h.trans (Keeps.of_below hb)
theorem keeps_store {w w1 w2 : World} {k : KB} {g : Nat} (h : Keeps w w1 (ownL k g)) (hg : w1.grownBy w2 (some g)) : Keeps w w2 (ownL k g) := h.grown hg (.inr rfl)
end Go.Proofs.Ythbanhedjfpmaaa
end

section
/-
  The contract of the journal's 'head'.
-/
namespace Go.Proofs.Ythbanhedjfpmaaa
set_option linter.unusedSimpArgs false
set_option linter.unusedVariables false
open Go.RowKit

def HeadOk (w0 w : World) (k : KB) (g : Nat) (d : DS) (l : LS) (n seq m : Nat) (e : Ending) (w' : World) : Prop :=
  e = .returned (.int .i64 (d.head l.at_ seq m).2) ∧ WL w0 w' k g (d.head l.at_ seq m).1 (l.headed seq (d.head l.at_ seq m).2) (n + 2) ∧ Keeps w w' (ownL k g)
theorem head_ok {w0 w w' : World} {k : KB} {g n seq m : Nat} {d d' : DS} {l : LS} {r : Int} (hr : r ≠ 0) (h : d.head l.at_ seq m = (d', r)) (hw : WL w0 w' k g d' { l with broken := true } (n + 2)) (hk : Keeps w w' (ownL k g)) : HeadOk w0 w k g d l n seq m (.returned (.int .i64 r)) w' := by
  unfold HeadOk
  rw [h]
  refine ⟨rfl, ?_, hk⟩
  unfold LS.headed
  rw [if_neg hr]
  exact hw
theorem head_ok0 {w0 w w' : World} {k : KB} {g n seq m : Nat} {d d' : DS} {l : LS} (h : d.head l.at_ seq m = (d', 0)) (hw : WL w0 w' k g d' { l with seq := seq } (n + 2)) (hk : Keeps w w' (ownL k g)) : HeadOk w0 w k g d l n seq m (.returned (.int .i64 0)) w' := by
  unfold HeadOk
  rw [h]
  exact ⟨rfl, hw, hk⟩
theorem head48_zeros (seq m : Nat) : (Wal.half seq m ++ Wal.half m seq) ++ (List.replicate 512 (0 : UInt8)).drop (Wal.half seq m ++ Wal.half m seq).length = Wal.headL seq m := by
  have e : (Wal.half seq m ++ Wal.half m seq).length = 48 := Wal.head48_length seq m
  rw [e, List.drop_replicate]
  rfl
set_option maxRecDepth 20000 in
set_option maxHeartbeats 2000000 in
theorem head_any (w0 w : World) (k : KB) (g n : Nat) (d : DS) (l : LS) (H : WL w0 w k g d l n) (hn : n + 2 < 1000000) (seq m : Nat) (hs : seq ≤ Wal.last62) (hm : m ≤ 1000000) :
    Calls Try.prog 63 #[.pointer (some ⟨g, 0, none⟩), .int .u64 (seq : Nat), .int .i64 (m : Nat)] w (HeadOk w0 w k g d l n seq m) := by
  have H0 := Lib.hid H
  have HS : Hid (seq < two64) := Nat.lt_of_le_of_lt hs (by decide)
  have HM : Hid (m < two64) := Nat.lt_of_le_of_lt hm (by decide)
  have HSL := Lib.hid hs
  have hat := H.log.good.at_
  have hat2 : l.at_ + seq % 2 ≤ 5001 := by have := Nat.mod_lt seq (by decide : 0 < 2); omega
  have HHL := Lib.hid (Wal.headL_length seq m)
  have HD : Hid (∀ x, x = d.write ((l.at_ : Int) + (seq : Int) % 2) (Wal.headL seq m) → d.head l.at_ seq m = if x.2 ≠ 0 then x else x.1.flush) := fun x hx => by
    subst hx
    have hi : ((l.at_ + seq % 2 : Nat) : Int) = (l.at_ : Int) + (seq : Int) % 2 := by omega
    rw [← hi]
    rfl
  clear H hs
  go_enter Try.func63, Try.ntmps63
  go_wp2_with (at_make; refine wpList_make_zeros rfl (.const (.int .i64 512)) (.const (.int .i64 512)) rfl _ _ _ _ 512 rfl rfl rfl rfl (by decide) (Nat.le_refl _) ?_; intro w1 ho1 hb1)
  have H1 := Lib.hid (And.intro ho1 hb1)
  clear ho1 hb1
  refine (half_any _ seq m HS.out HM.out).mono ?_
  rintro e w2 ⟨A2, c2, rfl, ho2, hb2⟩
  have H2 := Lib.hid (And.intro (H1.out.1.below hb2) (And.intro (H1.out.2.trans (hb2.mono H1.out.2.size)) ho2.row))
  clear ho2 hb2 H1
  go_wp2_with fail
  refine (half_any _ m seq HM.out HS.out).mono ?_
  rintro e w3 ⟨A3, c3, rfl, ho3, hb3⟩
  have H3 := Lib.hid (And.intro (H2.out.1.below hb3) (And.intro (H2.out.2.1.trans (hb3.mono H2.out.2.1.size)) (And.intro (H2.out.2.2.below hb3) ho3.row)))
  clear ho3 hb3 H2
  go_wp2_with fail
  refine (bconcat2 _ _ _ ⟨A2, c2, Wal.half seq m⟩ ⟨A3, c3, Wal.half m seq⟩ (Row.new _ _ _) ⟨H3.out.2.2.1.alloc _, ?_⟩ ⟨H3.out.2.2.2.alloc _, ?_⟩ ?_).mono ?_
  · simp [Wal.half_length]
  · simp [Wal.half_length]
  · simp [Wal.half_length]
  rintro e w4 ⟨A4, c4, rfl, ho4, hb4⟩
  have hb34 : Below w3.heap.size w3 w4 := (Below.alloc1 w3 _).then hb4
  have H4 := Lib.hid (And.intro (H3.out.1.below hb34) (And.intro (H3.out.2.1.trans (hb34.mono H3.out.2.1.size)) ho4.row))
  clear ho4 hb4 hb34 H3
  have HZ : Hid ((List.replicate 512 (0 : UInt8)).length = 512) := List.length_replicate
  have HCL : Hid ((Wal.half seq m ++ Wal.half m seq).length ≤ (List.replicate 512 (0 : UInt8)).length) := by show _ ≤ _; rw [HZ.out]; exact Nat.le_trans (Nat.le_of_eq (Wal.head48_length seq m)) (by decide)
  go_wp2_with (refine wpList_copy_bytes (o := ⟨some 21, _, _, _, _, _⟩) rfl (.tmp 10) (.tmp 20) rfl 512 _ rfl rfl HZ.out.symm rfl H4.out.1 H4.out.2.2 HCL.out ?_; intro w5 ho5 hg5)
  rw [head48_zeros] at ho5
  have H5 : Hid (BOwn w5 w.heap.size (some ⟨w.heap.size, 0, none⟩) 512 (Wal.headL seq m) ∧ Below w.heap.size w w5) := ⟨ho5, H4.out.2.1.grown hg5 H4.out.2.1.size (fun k hk => by simp at hk; omega)⟩
  have HW := Lib.hid ((H0.out.below H5.out.2).below (w' := w5.drew) (Below.refl _ _).drewR)
  clear ho5 hg5 H4 HZ HCL
  have HWR := HW.out.dl.write (by omega) ((l.at_ : Int) + (seq : Int) % 2) (some ⟨w.heap.size, 0, none⟩) 512 (Wal.headL seq m) H5.out.1.row.drew
  rw [HHL.out] at HWR
  have HWR' := Lib.hid HWR
  clear HWR
  have HD2 := Lib.hid (HD.out _ rfl)
  clear HD
  generalize d.write ((l.at_ : Int) + (seq : Int) % 2) (Wal.headL seq m) = r at HWR' HD2
  obtain ⟨d1, e1⟩ := r
  obtain ⟨A0, c0, hc, hc2, -⟩ := HW.out.log.cells
  refine wp_region_plan (.take 0 (.take 1 (.take 2 (.take 3 (.take 4 (.take 5 (.take 6 (.take 7 (.take 8 (.take 9 (.take 10 (.take 11 (.take 12 (.run 13 [] (.take 14 .fin))))))))))))))) (by kernel_rfl) (by kernel_rfl) (by kernel_rfl) (by kernel_rfl) ?_
  simp only [walk, again, sel, List.getElem?_toArray, List.getElem?_cons_zero, List.getElem?_cons_succ]
  repeat ((with_reducible intro Z hZ); go_wp2_with (fail))
  refine HWR'.out.mono ?_
  rintro e w6 ⟨rfl, hL6, hK6⟩
  have HW6 : Hid (WL w0 w6 k g d1 l (n + 1) ∧ Keeps w w6 (ownL k g)) := ⟨HW.out.disk hL6 hK6, (Keeps.of_below (H5.out.2.drewR)).trans hK6.own2⟩
  clear hL6 hK6 HW HWR' hc hc2
  obtain ⟨A0, c0, hc, hc2, -⟩ := HW6.out.1.log.cells
  rcases Classical.em (e1 = 0) with he | he
  · subst he
    rw [if_neg (by simp)] at HD2
    have HF := Lib.hid (HW6.out.1.dl.flush (by omega))
    generalize d1.flush = r at HF HD2
    obtain ⟨d2, e2⟩ := r
    go_wp2_with fail
    repeat ((with_reducible intro Z hZ); go_wp2_with (fail))
    go_wp2_with fail
    refine HF.out.mono ?_
    rintro e w7 ⟨rfl, hL7, hK7⟩
    have HW7 : Hid (WL w0 w7 k g d2 l (n + 2) ∧ Keeps w w7 (ownL k g)) := ⟨HW6.out.1.disk hL7 hK7, HW6.out.2.trans hK7.own2⟩
    clear hL7 hK7 HF hc hc2
    obtain ⟨A0, c0, hc, hc2, -⟩ := HW7.out.1.log.cells
    rcases Classical.em (e2 = 0) with he | he
    · subst he
      go_wp2_with fail
      go_ret
      exact head_ok0 HD2.out (HW7.out.1.store (grown_store _ _ _ _) (HW7.out.1.log.setSeq HSL.out)) (keeps_store HW7.out.2 (grown_store _ _ _ _))
    · have he1 : (e2 != 0) = true := by simpa using he
      have HE := Lib.hid he
      clear he
      go_wp2_with fail
      go_ret
      exact head_ok HE.out HD2.out (HW7.out.1.store (grown_store _ _ _ _) HW7.out.1.log.setBroken) (keeps_store HW7.out.2 (grown_store _ _ _ _))
  · have he1 : (e1 != 0) = true := by simpa using he
    have he2 : (e1 == 0) = false := by simpa using he
    rw [if_pos (by simpa using he)] at HD2
    have HE := Lib.hid he
    clear he
    go_wp2_with fail
    repeat ((with_reducible intro Z hZ); go_wp2_with (fail))
    go_wp2_with fail
    go_ret
    exact head_ok HE.out HD2.out ⟨(HW6.out.1.store (grown_store _ _ _ _) HW6.out.1.log.setBroken).dl.more (by omega), (HW6.out.1.log.setBroken)⟩ (keeps_store HW6.out.2 (grown_store _ _ _ _))
end Go.Proofs.Ythbanhedjfpmaaa
end

section
/-
  What an opening of the journal needs: slices.Clip, the head that counts, one store at a time.
-/
namespace Go.Proofs.Ythbanhedjfpmaaa
set_option linter.unusedSimpArgs false
set_option linter.unusedVariables false
open Go.RowKit

set_option maxHeartbeats 400000 in
theorem bclip_any (w : World) (A : Option Addr) (n c : Nat) (hc : n ≤ c) : Calls Try.prog 64 #[.slice A n c] w fun e w' => (∃ A', e = .returned (.slice A' n n) ∧ (A' = A)) ∧ w = w' := by
  go_enter Try.func64, Try.ntmps64
  go_wp2_with fail
  all_goals
    go_ret
    exact ⟨⟨_, rfl, rfl⟩, rfl⟩
theorem block_eq (d : DS) (i : Nat) (hi : i < d.blocks.length) : d.block i = d.blocks[i].now.l := by
  unfold DS.block
  simp [hi]
theorem read_blk (w : World) (B : Nat) (k : KB) (d : DS) (h : DiskAt w B k d) (i : Nat) (hi : i < d.blocks.length) (hd : d.down = false) (x : Int) (hx : x = (i : Int)) :
    Calls Try.prog 21 #[.pointer (some ⟨k.gd, 0, none⟩), .int .i64 x] w fun e w' => ∃ A c, e = .returned (.tuple #[.slice A 512 c, .int .i64 0]) ∧ BOwn w' w.heap.size A c (d.block i) ∧ Below w.heap.size w w' := by
  subst hx
  rw [block_eq d i hi]
  exact read_ok w B k d h i hi hd
/-- The head that counts, among the first i. -/
def DS.picks (d : DS) (at_ room : Nat) : Nat → Nat × Nat
  | 0 => (0, 0)
  | i + 1 => if (d.picks at_ room i).1 < (Wal.right (d.block (at_ + i)) room).1 then Wal.right (d.block (at_ + i)) room else d.picks at_ room i
theorem right_zero (b : List UInt8) (room : Nat) (h : (Wal.right b room).1 = 0) : Wal.right b room = (0, 0) := by
  unfold Wal.right at h ⊢
  split
  · rename_i hc
    rw [if_pos hc] at h
    have := hc.2.2.1
    simp only at h
    omega
  · rfl
theorem DS.picks_two (d : DS) (at_ room : Nat) : d.picks at_ room 2 = d.pick at_ room := by
  have h1 : d.picks at_ room 1 = Wal.right (d.block at_) room := by
    show (if 0 < (Wal.right (d.block (at_ + 0)) room).1 then _ else (0, 0)) = _
    rw [Nat.add_zero]
    by_cases h : 0 < (Wal.right (d.block at_) room).1
    · rw [if_pos h]
    · rw [if_neg h, right_zero _ _ (by omega)]
  unfold DS.pick
  rw [← h1]
  rfl
theorem DS.picks_le (d : DS) (at_ room i : Nat) : (d.picks at_ room i).2 ≤ room ∧ (d.picks at_ room i).1 ≤ Wal.last62 := by
  induction i with
  | zero => exact ⟨Nat.zero_le _, Nat.zero_le _⟩
  | succ i ih =>
    unfold DS.picks
    split
    · exact Wal.right_le _ _
    · exact ih
theorem parse_length : ∀ (f : Nat) (b : List UInt8), (Wal.parse f b).1.length ≤ b.length
  | 0, _ => Nat.zero_le _
  | f + 1, b => by
    rw [Wal.parse]
    split
    · exact Nat.zero_le _
    · split
      · exact Nat.zero_le _
      · split
        · exact Nat.zero_le _
        · rename_i h1 h2 h3
          have hl := Wire.take_len ⟨b, 0⟩
          have ih := parse_length f ((Wire.take ⟨b, 0⟩).1.l.drop (4 + (Wire.take ⟨b, 0⟩).2))
          simp only [List.length_drop] at ih hl
          split
          · rename_i r e hq
            rw [hq] at ih
            simp only at ih
            split
            · simp only [List.length_cons]
              omega
            · exact Nat.zero_le _
theorem records_length (b : List UInt8) : (Wal.records b).1.length ≤ b.length := parse_length _ _
theorem LogAt.set4 {w : World} {B : Nat} {k : KB} {g : Nat} {l : LS} (h : LogAt w B k g l) {A : Option Addr} {c : Nat} {b : List UInt8} (hb : BRowX k.own w A b) (hc : b.length ≤ c) (hm : c ≤ maxLen) (hr : b.length ≤ l.room) (hn : l.count ≤ b.length) :
    LogAt (w.setCell ⟨g, 4, none⟩ (.slice A b.length c)) B k g { l with data := b } := by
  obtain ⟨⟨A', c', h1, h2, h3⟩, lo, own, gd⟩ := h
  exact ⟨⟨A, c, h1.set 4 _, hb.blk h1 (by decide) (grown_store _ _ _ _), hc, hm⟩, lo, own, ⟨gd.at_, gd.room, gd.seq, hr, hn⟩⟩
theorem LogAt.set5 {w : World} {B : Nat} {k : KB} {g : Nat} {l : LS} (h : LogAt w B k g l) {n : Nat} (hn : n ≤ l.data.length) : LogAt (w.setCell ⟨g, 5, none⟩ (.int .i64 (n : Nat))) B k g { l with count := n } := by
  obtain ⟨⟨A, c, h1, h2, h3⟩, lo, own, gd⟩ := h
  exact ⟨⟨A, c, h1.set 5 _, h2.blk h1 (by decide) (grown_store _ _ _ _), h3⟩, lo, own, ⟨gd.at_, gd.room, gd.seq, gd.data, hn⟩⟩
/-- A new journal's struct. -/
theorem LogAt.fresh {w W : World} {B : Nat} {k : KB} {at_ room : Nat} (hb : Blk W w.heap.size 114 (logCells k ⟨at_, room, 0, [], 0, false⟩ none 0)) (hB : B ≤ w.heap.size) (hk : ∀ i, k.own i → i < w.heap.size) (h1 : at_ ≤ 5000) (h2 : room ≤ 511000) :
    LogAt W B k w.heap.size ⟨at_, room, 0, [], 0, false⟩ :=
  ⟨⟨none, 0, hb, BRowX.nil _ _ _, Nat.le_refl _, by decide⟩, hB, fun h => Nat.lt_irrefl _ (hk _ h), ⟨h1, h2, Nat.zero_le _, Nat.zero_le _, Nat.le_refl _⟩⟩
/-- Block g was not there. -/
theorem keeps_new {w w1 w' : World} {k : KB} {g : Nat} (hb : Below w.heap.size w w1) (hk : Keeps w1 w' (ownL k g)) (hg : w.heap.size ≤ g) : Keeps w w' k.own :=
  ⟨hk.os.trans hb.os, hk.tape.trans hb.tape, hk.output.trans hb.output, Nat.le_trans hb.size hk.size, fun i hi hn => (hk.block i (Nat.lt_of_lt_of_le hi hb.size) (by rintro (h | h); exact hn h; omega)).trans (hb.block i hi)⟩
end Go.Proofs.Ythbanhedjfpmaaa
end

section
/-
  The journal's small methods, of a journal and of nil; openings that are refused.
-/
namespace Go.Proofs.Ythbanhedjfpmaaa
set_option linter.unusedSimpArgs false
set_option linter.unusedVariables false
open Go.RowKit

set_option maxHeartbeats 400000 in
theorem wbroken_any (w : World) (B : Nat) (k : KB) (g : Nat) (l : LS) (h : LogAt w B k g l) : Calls Try.prog 45 #[.pointer (some ⟨g, 0, none⟩)] w fun e w' => e = .returned (.bool l.broken) ∧ w = w' := by
  obtain ⟨A0, c0, hc, hc2, -⟩ := h.cells
  clear h
  go_enter Try.func45, Try.ntmps45
  go_wp2_with fail
  go_ret
  exact ⟨rfl, rfl⟩
set_option maxHeartbeats 400000 in
theorem wbroken_nil (w : World) : Calls Try.prog 45 #[.pointer none] w fun e w' => e = .returned (.bool true) ∧ w = w' := by
  go_enter Try.func45, Try.ntmps45
  go_wp2_with fail
  go_ret
  exact ⟨rfl, rfl⟩
set_option maxHeartbeats 400000 in
theorem wlen_any (w : World) (B : Nat) (k : KB) (g : Nat) (l : LS) (h : LogAt w B k g l) : Calls Try.prog 44 #[.pointer (some ⟨g, 0, none⟩)] w fun e w' => e = .returned (.int .i64 (l.count : Nat)) ∧ w = w' := by
  obtain ⟨A0, c0, hc, hc2, -⟩ := h.cells
  clear h
  go_enter Try.func44, Try.ntmps44
  go_wp2_with fail
  go_ret
  exact ⟨rfl, rfl⟩
set_option maxHeartbeats 400000 in
theorem wlen_nil (w : World) : Calls Try.prog 44 #[.pointer none] w fun e w' => e = .returned (.int .i64 0) ∧ w = w' := by
  go_enter Try.func44, Try.ntmps44
  go_wp2_with fail
  go_ret
  exact ⟨rfl, rfl⟩
set_option maxHeartbeats 400000 in
theorem wroom_any (w : World) (B : Nat) (k : KB) (g : Nat) (l : LS) (h : LogAt w B k g l) : Calls Try.prog 40 #[.pointer (some ⟨g, 0, none⟩)] w fun e w' => e = .returned (.int .i64 ((l.room : Int) - (l.data.length : Int))) ∧ w' = w.drew := by
  obtain ⟨A0, c0, hc, hc2, -⟩ := h.cells
  have h1 := h.good.data
  have h2 := h.good.room
  have h3 : (0 : Int) ≤ (l.room : Int) - (l.data.length : Int) := by omega
  clear h
  go_enter Try.func40, Try.ntmps40
  go_wp2_with fail
  refine wp_region_plan (.take 0 (.take 1 (.take 2 (.take 3 (.take 4 (.take 5 (.take 6 (.take 7 (.take 8 (.take 9 (.take 10 .fin))))))))))) (by kernel_rfl) (by kernel_rfl) (by kernel_rfl) (by kernel_rfl) ?_
  simp only [walk, again, sel, List.getElem?_toArray, List.getElem?_cons_zero, List.getElem?_cons_succ]
  repeat ((with_reducible intro Z hZ); go_wp2_with (fail))
  go_ret
  exact ⟨rfl, rfl⟩
set_option maxHeartbeats 400000 in
theorem wroom_nil (w : World) : Calls Try.prog 40 #[.pointer none] w fun e w' => e = .returned (.int .i64 0) ∧ w = w' := by
  go_enter Try.func40, Try.ntmps40
  go_wp2_with fail
  go_ret
  exact ⟨rfl, rfl⟩
set_option maxHeartbeats 400000 in
theorem wreset_nil (w : World) : Calls Try.prog 43 #[.pointer none] w fun e w' => e = .returned (.int .i64 3) ∧ w = w' := by
  go_enter Try.func43, Try.ntmps43
  go_wp2_with fail
  refine (wbroken_nil _).mono ?_
  rintro e w1 ⟨rfl, rfl⟩
  go_wp2_with fail
  go_ret
  exact ⟨rfl, rfl⟩
set_option maxRecDepth 100000 in
set_option maxHeartbeats 800000 in
theorem wadd_nil (w : World) (A : Option Addr) (n c : Nat) : Calls Try.prog 39 #[.pointer none, .slice A n c] w fun e w' => e = .returned (.int .i64 3) ∧ w = w' := by
  go_enter Try.func39, Try.ntmps39
  go_wp2_with fail
  refine (wbroken_nil _).mono ?_
  rintro e w1 ⟨rfl, rfl⟩
  go_wp2_with fail
  go_ret
  exact ⟨rfl, rfl⟩
def Refused (w : World) (e : Ending) (w' : World) : Prop := e = .returned (.tuple #[.pointer none, .slice none 0 0, .int .i64 1]) ∧ w = w'
set_option maxRecDepth 100000 in
set_option maxHeartbeats 800000 in
theorem open_nil (w : World) (f b : Int) : Calls Try.prog 38 #[.pointer none, .int .i64 f, .int .i64 b] w (Refused w) := by
  go_enter Try.func38, Try.ntmps38
  go_wp2_with fail
  go_ret3
  exact ⟨rfl, rfl⟩
set_option maxRecDepth 100000 in
set_option maxHeartbeats 2000000 in
theorem open_refused (w : World) (B : Nat) (k : KB) (d : DS) (h : DiskAt w B k d) (hb : d.blocks.length ≤ 4096) (f b : Int) (hf2 : f ≤ 9223372036854775807) (hx : f < 0 ∨ b < 3 ∨ (d.blocks.length : Int) < b ∨ (d.blocks.length : Int) - b < f) :
    Calls Try.prog 38 #[.pointer (some ⟨k.gd, 0, none⟩), .int .i64 f, .int .i64 b] w (Refused w) := by
  have HB := Lib.hid (blocks_any w B k d h)
  clear h
  rcases Int.lt_or_le f 0 with h0 | h0
  · go_enter Try.func38, Try.ntmps38
    go_wp2_with fail
    go_ret3
    exact ⟨rfl, rfl⟩
  rcases Int.lt_or_le b 3 with h1 | h1
  · go_enter Try.func38, Try.ntmps38
    go_wp2_with fail
    go_ret3
    exact ⟨rfl, rfl⟩
  rcases Int.lt_or_le (d.blocks.length : Int) b with h2 | h2
  · clear hx
    go_enter Try.func38, Try.ntmps38
    go_wp2_with fail
    refine HB.out.mono ?_
    rintro e w1 ⟨rfl, rfl⟩
    go_wp2_with fail
    go_ret3
    exact ⟨rfl, rfl⟩
  · have h3 : (d.blocks.length : Int) - b < f := by omega
    clear hx
    go_enter Try.func38, Try.ntmps38
    go_wp2_with fail
    refine HB.out.mono ?_
    rintro e w1 ⟨rfl, rfl⟩
    go_wp2_with fail
    refine HB.out.mono ?_
    rintro e w1 ⟨rfl, rfl⟩
    go_wp2_with fail
    go_ret3
    exact ⟨rfl, rfl⟩
end Go.Proofs.Ythbanhedjfpmaaa
end

section
/-
  The contract of the journal's Reset.
-/
namespace Go.Proofs.Ythbanhedjfpmaaa
set_option linter.unusedSimpArgs false
set_option linter.unusedVariables false
open Go.RowKit

/-- What a call that changes the journal answers. -/
def ChangeOk (w0 w : World) (k : KB) (g n : Nat) (r : AR) (e : Ending) (w' : World) : Prop := e = .returned (.int .i64 r.e) ∧ WL w0 w' k g r.d r.l n ∧ Keeps w w' (ownL k g)
theorem change_ok {w0 w w' : World} {k : KB} {g n : Nat} {r r' : AR} (h : r = r') (hw : WL w0 w' k g r'.d r'.l n) (hk : Keeps w w' (ownL k g)) : ChangeOk w0 w k g n r (.returned (.int .i64 r'.e)) w' := by
  subst h
  exact ⟨rfl, hw, hk⟩
theorem WL.more {w0 w : World} {k : KB} {g n m : Nat} {d : DS} {l : LS} (h : WL w0 w k g d l n) (hm : n ≤ m) : WL w0 w k g d l m := ⟨h.dl.more hm, h.log⟩
theorem seq_wrap {s : Nat} (h : s ≤ Wal.last62) : IntKind.u64.wrap ((s : Int) + 1) = (s : Int) + 1 := by
  unfold Wal.last62 at h
  exact IntWalk.u64_in _ (by omega)
theorem seq_next {s : Nat} (h : s ≤ Wal.last62) (h2 : s ≠ Wal.last62) : s + 1 ≤ Wal.last62 := by omega
theorem seq_last {s : Nat} (h : s ≠ Wal.last62) : ((s : Int) == 4611686018427387904) = false := by
  unfold Wal.last62 at h
  simp; omega
set_option maxRecDepth 20000 in
set_option maxHeartbeats 1000000 in
theorem wreset_any (w0 w : World) (k : KB) (g n : Nat) (d : DS) (l : LS) (H : WL w0 w k g d l n) (hn : n + 2 < 1000000) :
    Calls Try.prog 43 #[.pointer (some ⟨g, 0, none⟩)] w (ChangeOk w0 w k g (n + 2) (d.reset l)) := by
  have H0 := Lib.hid H
  have HBR := Lib.hid (wbroken_any w _ k g l H.log)
  have hsq := H.log.good.seq
  have HW := seq_wrap hsq
  have HHD := Lib.hid (fun hne => head_any w0 w k g n d l H hn (l.seq + 1) 0 (seq_next hsq hne) (by omega))
  obtain ⟨A0, c0, hc, hc2, -⟩ := H.log.cells
  have HD : Hid (d.reset l = if l.broken = true then ⟨d, l, 3⟩ else if l.seq = Wal.last62 then ⟨d, l, 40⟩ else if (d.head l.at_ (l.seq + 1) 0).2 ≠ 0 then ⟨(d.head l.at_ (l.seq + 1) 0).1, { l with broken := true }, (d.head l.at_ (l.seq + 1) 0).2⟩
    else ⟨(d.head l.at_ (l.seq + 1) 0).1, { l with seq := l.seq + 1, data := [], count := 0 }, 0⟩) := rfl
  unfold HeadOk at HHD
  generalize d.head l.at_ (l.seq + 1) 0 = r at HHD HD
  obtain ⟨d2, e2⟩ := r
  clear H hsq
  rcases Classical.em (l.broken = true) with hb | hb
  · rw [if_pos hb] at HD
    rw [hb] at HBR
    clear hb
    go_enter Try.func43, Try.ntmps43
    go_wp2_with fail
    refine HBR.out.mono ?_
    rintro e w1 ⟨rfl, rfl⟩
    go_wp2_with fail
    go_ret
    exact change_ok HD.out (H0.out.more (by omega)) (Keeps.refl _ _)
  · have hb0 : l.broken = false := by simpa using hb
    rw [if_neg hb] at HD
    rw [hb0] at HBR
    clear hb hb0
    rcases Classical.em (l.seq = Wal.last62) with hs | hs
    · have hs1 : ((l.seq : Int) == 4611686018427387904) = true := by rw [hs]; decide
      rw [if_pos hs] at HD
      clear hs HHD HW
      go_enter Try.func43, Try.ntmps43
      go_wp2_with fail
      refine HBR.out.mono ?_
      rintro e w1 ⟨rfl, rfl⟩
      go_wp2_with fail
      go_ret
      exact change_ok HD.out (H0.out.more (by omega)) (Keeps.refl _ _)
    · have hs1 := seq_last hs
      rw [if_neg hs] at HD
      have HH := Lib.hid (HHD.out hs)
      clear hs HHD
      go_enter Try.func43, Try.ntmps43
      go_wp2_with fail
      refine HBR.out.mono ?_
      rintro e w1 ⟨rfl, rfl⟩
      go_wp2_with fail
      refine HH.out.mono ?_
      rintro e w3 ⟨rfl, hw3, hk3⟩
      have HW3 := Lib.hid (And.intro hw3 hk3)
      clear hw3 hk3 hc hc2 HH
      obtain ⟨A0, c0, hc, hc2, -⟩ := HW3.out.1.log.cells
      unfold LS.headed at HW3
      rcases Classical.em (e2 = 0) with he | he
      · subst he
        rw [if_pos rfl] at HW3
        rw [if_neg (by simp)] at HD
        go_wp2_with fail
        go_ret
        refine change_ok HD.out (HW3.out.1.store ((grown_store _ _ _ _).set_ ⟨g, 5, none⟩ rfl _) ?_) (keeps_store HW3.out.2 ((grown_store _ _ _ _).set_ ⟨g, 5, none⟩ rfl _))
        exact HW3.out.1.log.setData (A := none) (c := 0) (b := []) (n := 0) (BRowX.nil _ _ _) (Nat.le_refl _) (by decide) (Nat.zero_le _) (Nat.zero_le _)
      · have he1 : (e2 != 0) = true := by simpa using he
        rw [if_neg he] at HW3
        rw [if_pos he] at HD
        clear he
        go_wp2_with fail
        go_ret
        exact change_ok HD.out HW3.out.1 HW3.out.2
end Go.Proofs.Ythbanhedjfpmaaa
end

section
/-
  The walk of DiskSure.
-/
namespace Go.Proofs.Ythbanhedjfpmaaa
set_option linter.unusedSimpArgs false
set_option linter.unusedVariables false
open Go.RowKit

/-- 512 noughts. -/
def Zt : List UInt8 := List.replicate 512 0
theorem Zt_length : Zt.length = 512 := List.length_replicate
theorem zt_step (i : Nat) (hi : i < 8) : (List.replicate i Zt ++ List.replicate (8 - i) ([] : List UInt8)).set i Zt = List.replicate (i + 1) Zt ++ List.replicate (8 - (i + 1)) [] := by
  rw [List.set_append_right _ _ (by simp), List.length_replicate, Nat.sub_self, show 8 - i = (8 - (i + 1)) + 1 from by omega, List.replicate_succ, List.set_cons_zero, List.replicate_succ', List.append_assoc]
  rfl
theorem will_new (j : Nat) (hj : j < 8) : (DS.new 8).will j = (List.replicate 8 Zt).getD j [] := by
  have e : (DS.new 8).blocks.getD j default = ⟨B512.zero, B512.zero⟩ := by
    show (List.replicate 8 (⟨B512.zero, B512.zero⟩ : DB)).getD j default = _
    rw [List.getD_eq_getElem?_getD, List.getElem?_replicate, if_pos hj]
    rfl
  show ((DS.new 8).blocks.getD j default).sure.l = _
  rw [e]
  simp only [List.getD_eq_getElem?_getD, List.getElem?_replicate, hj, if_true, Option.getD_some]
  rfl
theorem mod8 (x : Int) : ∃ m : Nat, m < 8 ∧ wrap64 ((IntKind.u64.wrap x).tmod 8) = (m : Int) := by
  have h0 : 0 ≤ IntKind.u64.wrap x := by simp [IntKind.wrap, IntKind.signed, IntKind.bits]; omega
  refine ⟨(IntKind.u64.wrap x % 8).toNat, by omega, ?_⟩
  rw [Int.tmod_eq_emod_of_nonneg h0]
  have h1 : 0 ≤ IntKind.u64.wrap x % 8 ∧ IntKind.u64.wrap x % 8 < 8 := by omega
  generalize IntKind.u64.wrap x % 8 = y at h1
  unfold wrap64
  simp [IntKind.wrap, IntKind.signed, IntKind.bits]
  omega
theorem run_string_zt (w : World) {B : Nat} {A : Option Addr} {c : Nat} (h : BOwn w B A c (List.replicate 512 0)) : (convert 33 9 (.slice A 512 c)).run Try.prog w = .ok (txt Zt) w := by
  have := run_string_bytes w (l := Zt) c h.row
  rwa [Zt_length] at this
theorem DL.own_lt {w0 w : World} {k : KB} {d : DS} {n : Nat} (h : DL w0 w k d n) : ∀ i, k.own i → i < w.heap.size := fun i hi => by
  have := h.at_.head
  rcases hi with rfl | rfl
  · exact this.2.1
  · exact this.2.2.1
/-- A new row is kept by a disk's call. -/
theorem DL.new_kept {w0 w w7 w8 : World} {k : KB} {d : DS} {n : Nat} (h : DL w0 w k d n) {A : Option Addr} {c : Nat} {l : List UInt8} (ho : BOwn w7 w.heap.size A c l) (hK : Keeps w7 w8 k.own) : BOwn w8 w.heap.size A c l :=
  ho.keptK hK fun a ha ho' => by
    have h1 := (ho.block a ha).1
    have h2 := h.own_lt _ ho'
    omega
theorem fitsD_len {n : Int} {L : List OpD} (h : fitsD n L = true) : L.length ≤ 60 := by
  unfold fitsD at h
  simp only [Bool.and_eq_true, decide_eq_true_eq] at h
  exact h.1.2
theorem getD_set8 {ws : List (List UInt8)} (hw : ws.length = 8) {m : Nat} (l : List UInt8) {j : Nat} (hj : j < 8) : (ws.set m l).getD j [] = if j = m then l else ws.getD j [] := by
  rw [List.getD_eq_getElem?_getD, List.getD_eq_getElem?_getD]
  by_cases h : j = m
  · subst h
    rw [List.getElem?_set_self (by omega), if_pos rfl]; rfl
  · rw [List.getElem?_set_ne (fun e => h e.symm), if_neg h]
end Go.Proofs.Ythbanhedjfpmaaa
end

section
/-
  The walk of DiskSure, whatever comes in.
-/
namespace Go.Proofs.Ythbanhedjfpmaaa
set_option linter.unusedSimpArgs false
set_option linter.unusedVariables false
open Go.RowKit Go.WideShapes Go.ChangeShapes Go.Deep

set_option maxRecDepth 20000 in
theorem fall_in {H : Type} {enc : TypeId × Value → H} {w : World} {base : Nat} {v : Value} {d : DataW H} {p : List MemPlace}
    (hv : Value.okWide Try.prog w .any base 25 v) (h : DataW.Trod enc Try.prog w 0 (fun _ => true) true 25 v d p) : ∃ f : DF, v = .agg (eDF.code f).toArray ∧ f.Fine := by
  obtain ⟨cs, rfl, hlen⟩ := okWide_struct Try.underlying25 hv
  obtain ⟨fuel, hf⟩ := h
  have h3 : Try.prog.cellsOf 25 = 3 := by kernel_rfl
  obtain ⟨f, hc, hF⟩ := open_fall hf (by simpa [Value.cells, h3] using hlen)
  refine ⟨f, ?_, hF⟩
  have : cs.toList = eDF.code f := hc
  rw [← this]
end Go.Proofs.Ythbanhedjfpmaaa
end

section
/-
  DiskWhole, plain; a disk and a clone of it.
-/
namespace Go.Proofs.Ythbanhedjfpmaaa
set_option linter.unusedSimpArgs false
set_option linter.unusedVariables false
open Go.RowKit

theorem sureAll_now : ∀ (ws : List DW) (L : List DB) (i : Nat), ((sureAll ws L).getD i default).now = (L.getD i default).now
  | [], _, _ => rfl
  | x :: ws, L, i => by
    rw [sureAll, sureAll_now ws]
    by_cases h : x.at_.toNat = i
    · by_cases hl : i < L.length
      · subst h; simp [hl]
      · rw [List.set_eq_of_length_le (by omega)]
    · simp [List.getElem?_set_ne h]
/-- What is now there is what will surely be. -/
structure WholeD (d : DS) : Prop where
  calm : Calm d
  now : ∀ i, i < 8 → (d.blocks.getD i default).now.l = d.will i
theorem WholeD.write {d : DS} (h : WholeD d) {m : Nat} (hm : m < 8) {l : List UInt8} (hl : l.length = 512) : WholeD (d.write (m : Int) l).1 := by
  obtain ⟨-, h2, h3, -, -⟩ := h.calm.write hm hl
  refine ⟨h2, fun i hi => ?_⟩
  rw [h3, ← h.now i hi, write_plain h.calm.falls h.calm.down (by rw [h.calm.len]; exact hm) hl]
  have hm' : m < d.blocks.length := by rw [h.calm.len]; exact hm
  by_cases e : i = m
  · subst e; simp [hm']
  · simp [e, List.getElem?_set_ne (fun h => e h.symm)]
theorem WholeD.flush {d : DS} (h : WholeD d) : WholeD d.flush.1 ∧ ∀ i, i < 8 → (d.flush.1.blocks.getD i default).now = (d.flush.1.blocks.getD i default).sure := by
  obtain ⟨-, h2, -, h4⟩ := h.calm.flush
  have hn : ∀ i, (d.flush.1.blocks.getD i default).now = (d.blocks.getD i default).now := fun i => by
    rw [flush_plain h.calm.falls h.calm.down]
    exact sureAll_now _ _ i
  refine ⟨⟨h2, fun i hi => ?_⟩, fun i hi => B512.ext' (by rw [hn, h4, h.now i hi])⟩
  rw [hn, h.now i hi]
  rw [flush_plain h.calm.falls h.calm.down]
  rfl
theorem hitAll_all (n : Int) : ∀ (ws : List DW) (k : Nat) (L : List DB), k + ws.length ≤ 64 → hitAll ⟨0, 18446744073709551615, 0⟩ n ws k L = sureAll ws L
  | [], _, _, _ => rfl
  | x :: ws, k, L, h => by
    simp only [List.length_cons] at h
    have hk : keepB ⟨0, 18446744073709551615, 0⟩ k = true := by
      unfold keepB
      have h1 : (18446744073709551615 : Nat) = 2 ^ 64 - 1 := by decide
      simp only [h1, Nat.testBit_two_pow_sub_one]
      simp; omega
    rw [hitAll, hitAll_all n ws (k + 1) _ (by omega), sureAll]
    congr 2
    unfold DB.hit
    rw [if_pos hk]
theorem set_getD {α : Type} [Inhabited α] (L : List α) (i : Nat) : L.set i (L.getD i default) = L := by
  by_cases h : i < L.length
  · simp [h]
  · exact List.set_eq_of_length_le (by omega)
theorem hitAll_none (n : Int) : ∀ (ws : List DW) (k : Nat) (L : List DB), hitAll ⟨0, 0, 0⟩ n ws k L = L
  | [], _, _ => rfl
  | x :: ws, k, L => by
    have hk : keepB ⟨0, 0, 0⟩ k = false := by unfold keepB; simp
    have e : ∀ x' : DB, x'.hit ⟨0, 0, 0⟩ n k x = x' := by
      intro x'
      unfold DB.hit
      rw [if_neg (by simp [hk])]
      split
      · have : x.b.over x'.sure (tornN 0) = x'.sure := by
          refine B512.ext' ?_
          show List.take (tornN 0) x.b.l ++ List.drop (tornN 0) x'.sure.l = _
          rw [show tornN 0 = 0 from by decide]
          rfl
        rw [this]
      · rfl
    rw [hitAll, e, set_getD, hitAll_none]
/-- What a loss of power leaves, of a disk d whose clone is s: all, or what was sure. -/
theorem WholeD.crash {d : DS} (h : WholeD d) (hp : d.pending.length ≤ 64) (f : DF) (hf : f = ⟨0, 18446744073709551615, 0⟩) :
    (d.crash f).blocks.length = 8 ∧ (d.crash f).down = true ∧ ∀ i, i < 8 → ((d.crash f).blocks.getD i default).now = (d.blocks.getD i default).now := by
  refine ⟨by rw [crash_length, h.calm.len], by unfold DS.crash; rw [if_neg (by simp [h.calm.down])], fun i hi => B512.ext' ?_⟩
  unfold DS.crash
  rw [if_neg (by simp [h.calm.down]), hf, hitAll_all _ _ _ _ (by omega)]
  have hlen : i < (sureAll d.pending d.blocks).length := by rw [sureAll_length, h.calm.len]; exact hi
  have e : (((sureAll d.pending d.blocks).map fun x => (⟨x.sure, x.sure⟩ : DB)).getD i default).now = ((sureAll d.pending d.blocks).getD i default).sure := by simp [hlen]
  show _ = _
  rw [h.now i hi]
  exact congrArg B512.l e
theorem Calm.crash0 {d : DS} (h : Calm d) (f : DF) (hf : f = ⟨0, 0, 0⟩) :
    (d.crash f).blocks.length = 8 ∧ (d.crash f).down = true ∧ ∀ i, i < 8 → ((d.crash f).blocks.getD i default).now = (d.blocks.getD i default).sure := by
  refine ⟨by rw [crash_length, h.len], by unfold DS.crash; rw [if_neg (by simp [h.down])], fun i hi => ?_⟩
  unfold DS.crash
  rw [if_neg (by simp [h.down]), hf, hitAll_none]
  have hlen : i < d.blocks.length := by rw [h.len]; exact hi
  simp [hlen]
theorem DiskAt.keptBy {w w' : World} {B : Nat} {k : KB} {d : DS} {S : Nat → Prop} (h : DiskAt w B k d) (hK : Keeps w w' S) (hS : ∀ i, S i → i < B) : DiskAt w' B k d := by
  obtain ⟨⟨cb, np, cp, nf, cf, Ap, Af, h1, h2, h3, h4, h5, h6, h7, h8, h9, h10, h11⟩, lo⟩ := h
  refine ⟨⟨cb, np, cp, nf, cf, Ap, Af, h1, h2, h3, h4, h5, h6.kept hK (fun hs => by have := hS _ hs; omega), h7.keptK hK ?_, h8.keptK hK ?_, h9.keptK hK ?_, h10, h11⟩, lo⟩
  · exact fun a ha hs => by have := hS _ hs; have := (h7.block a ha).1; omega
  · exact fun a ha hs => by have := hS _ hs; have := (h8.block a ha).1; omega
  · exact fun a ha hs => by have := hS _ hs; have := (h9.block a ha).1; omega
/-- A disk d, and a clone s in blocks of its own. -/
structure SW (w0 w : World) (k : KB) (d : DS) (n B2 : Nat) (k2 : KB) (s : DS) : Prop where
  dl : DL w0 w k d n
  at2 : DiskAt w B2 k2 s
  ap : ∀ i, k.own i → i < B2
section
variable {w0 w w' : World} {k k2 : KB} {d d' s : DS} {n n' B2 : Nat}
theorem SW.below (h : SW w0 w k d n B2 k2 s) (hb : Below w.heap.size w w') : SW w0 w' k d n B2 k2 s := ⟨h.dl.below hb, h.at2.below hb, h.ap⟩
theorem SW.disk (h : SW w0 w k d n B2 k2 s) (hd : DL w0 w' k d' n') (hk : Keeps w w' k.own) : SW w0 w' k d' n' B2 k2 s := ⟨hd, h.at2.keptBy hk h.ap, h.ap⟩
theorem DL.clone (h : DL w0 w k d n) : Calls Try.prog 23 #[.pointer (some ⟨k.gd, 0, none⟩)] w fun e w' => ∃ k', e = .returned (.pointer (some ⟨k'.gd, 0, none⟩)) ∧ SW w0 w' k d n w.heap.size k' d ∧ Below w.heap.size w w' :=
  (dclone_any w _ k d h.at_ h.good).mono fun e w' ⟨k', he, ha, hb⟩ => ⟨k', he, ⟨h.below hb, ha, h.own_lt⟩, hb⟩
end
/-- The clone has what is sure. -/
structure PairD (d s : DS) : Prop where
  whole : WholeD d
  same : ∀ i, i < 8 → (s.blocks.getD i default).now = (d.blocks.getD i default).sure
  down : s.down = false
  len : s.blocks.length = 8
theorem PairD.write {d s : DS} (h : PairD d s) {m : Nat} (hm : m < 8) {l : List UInt8} (hl : l.length = 512) : PairD (d.write (m : Int) l).1 s :=
  ⟨h.whole.write hm hl, fun i hi => by rw [(h.whole.calm.write hm hl).2.2.2.1]; exact h.same i hi, h.down, h.len⟩
theorem PairD.flush {d s : DS} (h : PairD d s) : PairD d.flush.1 d.flush.1 :=
  ⟨h.whole.flush.1, h.whole.flush.2, h.whole.flush.1.calm.down, h.whole.flush.1.calm.len⟩
theorem PairD.new : PairD (DS.new 8) (DS.new 8) := by
  have e : ∀ i, i < 8 → (DS.new 8).blocks.getD i default = ⟨B512.zero, B512.zero⟩ := fun i hi => by
    show (List.replicate 8 (⟨B512.zero, B512.zero⟩ : DB)).getD i default = _
    rw [List.getD_eq_getElem?_getD, List.getElem?_replicate, if_pos hi]
    rfl
  refine ⟨⟨⟨rfl, rfl, rfl⟩, fun i hi => ?_⟩, fun i hi => by rw [e i hi], rfl, rfl⟩
  show ((DS.new 8).blocks.getD i default).now.l = ((DS.new 8).blocks.getD i default).sure.l
  rw [e i hi]
end Go.Proofs.Ythbanhedjfpmaaa
end

section
/-
  The walk of DiskWhole.
-/
namespace Go.Proofs.Ythbanhedjfpmaaa
set_option linter.unusedSimpArgs false
set_option linter.unusedVariables false
open Go.RowKit

end Go.Proofs.Ythbanhedjfpmaaa
end

section
/-
  The walk of DiskWhole, whatever comes in.
-/
namespace Go.Proofs.Ythbanhedjfpmaaa
set_option linter.unusedSimpArgs false
set_option linter.unusedVariables false
open Go.RowKit

end Go.Proofs.Ythbanhedjfpmaaa
end

section
/-
  The document's disk: what it is, plain and in memory; New, with, Why, Now.
-/
namespace Go.Proofs.Ythbanhedjfpmaaa
set_option linter.unusedSimpArgs false
set_option linter.unusedVariables false
open Go.RowKit

def eStr : Elem (List UInt8) where
  e := 9
  t := 51
  sz := 1
  bytes := 16
  zero := .string ⟨#[]⟩
  code := fun s => [txt s]
  pos := by decide
  few := by decide
  len := fun _ => rfl
  one := by
    intro x u hu
    simp at hu
    subst hu
    rfl
  zsz := rfl
  info := by kernel_rfl
  under := Try.underlying51
def eRW : Elem (Int × List UInt8) where
  e := 109
  t := 52
  sz := 2
  bytes := 24
  zero := .agg #[.int .i64 0, .string ⟨#[]⟩]
  code := fun x => [.int .i64 x.1, txt x.2]
  pos := by decide
  few := by decide
  len := fun _ => rfl
  one := by
    intro x u hu
    simp at hu
    rcases hu with rfl | rfl <;> rfl
  zsz := rfl
  info := by kernel_rfl
  under := Try.underlying52
/-- The document's disk. -/
structure RX where
  sure : List (List UInt8)
  pend : List (Int × List UInt8)
  falls : List DF
  ch : Nat
  down : Bool
/-- It lies behind these five cells. -/
def RefX (S : Nat → Prop) (w : World) (c : List Value) (x : RX) : Prop := ∃ As cs Ap cp Af cf, c = [.slice As x.sure.length cs, .slice Ap x.pend.length cp, .slice Af x.falls.length cf, .int .i64 (x.ch : Nat), .bool x.down] ∧
  RowX S eStr w As x.sure ∧ RowX S eRW w Ap x.pend ∧ RowX S eDF w Af x.falls
theorem RefX.below {S : Nat → Prop} {w w' : World} {c : List Value} {x : RX} (h : RefX S w c x) (hb : Below w.heap.size w w') : RefX S w' c x := by
  obtain ⟨As, cs, Ap, cp, Af, cf, h1, h2, h3, h4⟩ := h
  exact ⟨As, cs, Ap, cp, Af, cf, h1, h2.below hb, h3.below hb, h4.below hb⟩
theorem RefX.keptG {S : Nat → Prop} {w w' : World} {c : List Value} {x : RX} {g : Nat} {T : TypeId} {a1 b1 c1 : Option Addr} {a2 a3 b2 b3 c2 c3 : Nat} {n : Int} {b : Bool} (h : RefX S w c x) (hb : Blk w g T [.slice a1 a2 a3, .slice b1 b2 b3, .slice c1 c2 c3, .int .i64 n, .bool b]) (hg : w.grownBy w' (some g)) : RefX S w' c x := by
  obtain ⟨As, cs, Ap, cp, Af, cf, h1, h2, h3, h4⟩ := h
  refine ⟨As, cs, Ap, cp, Af, cf, h1, h2.keptV hb 0 (fun x => ⟨txt x, rfl, by simp [txt]⟩) hg, h3.keptV hb 1 (fun x => ⟨txt x.2, rfl, by simp [txt]⟩) hg, h4.keptV hb 1 (fun x => ⟨.int .u64 (x.keep : Nat), rfl, by simp⟩) hg⟩
theorem txt_one (l : List UInt8) : (txt l).oneCell' = true := rfl
/-- A text of a row. -/
theorem str_at {w : World} {A : Option Addr} {L : List (List UInt8)} (h : ERow eStr w A L) {i : Nat} (hi : i < L.length) : ∃ b o, A = some ⟨b, o, none⟩ ∧ b < w.heap.size ∧ w.cell? ⟨b, o + i, none⟩ = some (.string ⟨L[i].toArray⟩) := by
  obtain ⟨b, o, e, hb, hc⟩ := h.at_ hi
  exact ⟨b, o, e, hb, by simpa [eStr, txt] using hc 0 _ rfl⟩
theorem rw_at {w : World} {A : Option Addr} {L : List (Int × List UInt8)} (h : ERow eRW w A L) {i : Nat} (hi : i < L.length) : ∃ b o, A = some ⟨b, o, none⟩ ∧ b < w.heap.size ∧ w.cell? ⟨b, o + i * 2, none⟩ = some (.int .i64 L[i].1) ∧ w.cell? ⟨b, o + i * 2 + 1, none⟩ = some (.string ⟨L[i].2.toArray⟩) := by
  obtain ⟨b, o, e, hb, hc⟩ := h.at_ hi
  exact ⟨b, o, e, hb, hc 0 _ rfl, by simpa [txt, Nat.add_assoc, eRW] using hc 1 (txt L[i].2) rfl⟩
theorem fall_at {w : World} {A : Option Addr} {L : List DF} (h : ERow eDF w A L) {i : Nat} (hi : i < L.length) : ∃ b o, A = some ⟨b, o, none⟩ ∧ b < w.heap.size ∧ w.cell? ⟨b, o + i * 3, none⟩ = some (.int .i64 L[i].at_) ∧
    w.cell? ⟨b, o + i * 3 + 1, none⟩ = some (.int .u64 (L[i].keep : Nat)) ∧ w.cell? ⟨b, o + i * 3 + 2, none⟩ = some (.int .i64 L[i].torn) := by
  obtain ⟨b, o, e, hb, hc⟩ := h.at_ hi
  exact ⟨b, o, e, hb, hc 0 _ rfl, hc 1 _ rfl, hc 2 _ rfl⟩

/-- A call that returns such a disk; and a number. -/
def RetX (S : Nat → Prop) (w : World) (x : RX) (e : Ending) (w' : World) : Prop := ∃ c, e = .returned (.agg c.toArray) ∧ RefX S w' c x ∧ Below w.heap.size w w'
def RetXN (S : Nat → Prop) (w : World) (r : RX × Int) (e : Ending) (w' : World) : Prop := ∃ c, e = .returned (.tuple #[.agg c.toArray, .int .i64 r.2]) ∧ RefX S w' c r.1 ∧ Below w.heap.size w w'

/-! with -/
set_option maxHeartbeats 1000000 in
theorem with_any (w : World) (A : Option Addr) (c : Nat) (L : List (List UInt8)) (i : Int) (s : List UInt8) (h : ERow eStr w A L) (hi0 : 0 ≤ i) (hi : i < L.length) (hL : L.length ≤ 5000) :
    Calls Try.prog 69 #[.slice A L.length c, .int .i64 i, .string ⟨s.toArray⟩] w (RetRow eStr w (L.set i.toNat s)) := by
  obtain ⟨m, rfl⟩ : ∃ m : Nat, i = (m : Int) := ⟨i.toNat, by omega⟩
  have hm : m < L.length := by omega
  have HR := Lib.hid h
  clear h
  go_enter Try.func69, Try.ntmps69
  go_upto_region 2 with (at_builtin; refine wpList_append_elems eStr rfl (.tmp 8) (.tmp 9) rfl 0 rfl ((fresh1 rfl).1.own eStr (B := w.heap.size) [] rfl (by simp) (Nat.le_refl _)) rfl _ rfl (HR.out.below (fresh1 rfl).2.2) rfl (by simp; omega) (by simp) ?_; intro A3 c3 w3 ho3 hb3 _ _)
  simp only [List.nil_append, List.length_nil, Nat.zero_add] at ho3 ⊢
  rcases ho3.form with ⟨_, _, e⟩ | ⟨g, rfl, hg, hlt, _⟩
  · rw [e] at hm; simp at hm
  have hc := ho3.cell (j := m) (k := 0) hm (v := txt L[m]) rfl
  have hfr := ho3.free m
  rw [show m * eStr.sz + 0 = m from by simp [eStr]] at hc
  have ho4 := ho3.store (j := m) (k := 0) hm (by decide) s (txt s) rfl
  rw [show m * eStr.sz + 0 = m from by simp [eStr]] at ho4
  have HF := Lib.hid (And.intro ho4 (((Below.alloc1 w _).trans hb3).setCell (p := ⟨g, m, none⟩) hg (txt s)))
  clear ho3 ho4 hb3
  unfold txt at HF
  go_wp2_with fail
  go_ret
  exact ⟨some ⟨g, 0, none⟩, c3, by rw [List.length_set]; rfl, HF.out⟩
theorem load_rx {w : World} {g : Nat} {a b c d e : Value} (h : Blk w g 54 [a, b, c, d, e]) : (loadVar 54 ⟨g, 0, none⟩).run Try.prog w = .ok (.agg #[a, b, c, d, e]) w := by
  obtain ⟨h0, h1, h2, h3, h4, -⟩ := h.c5
  clear h
  go_simp
def RX.fresh (n : Nat) : RX := ⟨List.replicate n Zt, [], [], 0, false⟩
set_option maxHeartbeats 1000000 in
theorem refnew_any (S : Nat → Prop) (w : World) (hS : ∀ i, S i → i < w.heap.size) (n : Nat) (hn : n ≤ 4096) :
    Calls Try.prog 28 #[.int .i64 n] w (RetX S w (RX.fresh n)) := by
  go_enter Try.func28, Try.ntmps28
  go_upto_region 1 with (fail)
  generalize hW0 : World.alloc w (.cells _ _) = W
  obtain ⟨ba0, hz0, hB0⟩ := fresh1 hW0
  clear hW0
  have HB0 := Lib.hid (And.intro ba0 hB0)
  clear ba0 hB0
  go_wp2_with (refine wpList_make_zeros rfl (.const (.int .i64 512)) (.const (.int .i64 512)) rfl _ _ _ _ 512 rfl rfl rfl rfl (by decide) (Nat.le_refl _) ?_; intro w6 ho hb; have hcv := run_string_zt w6 ho; unfold txt at hcv; have HI : Hid (Blk w6 w.heap.size 54 [.slice none 0 0, .slice none 0 0, .slice none 0 0, .int .i64 0, .bool false] ∧ Below w.heap.size w w6 ∧ EOwn eStr w6 (w.heap.size + 1) none 0 (List.replicate 0 Zt)) := ⟨HB0.out.1.below hb, HB0.out.2.trans (hb.mono HB0.out.2.size), EOwn.nil _ _⟩; clear ho hb)
  clear hcv
  go_loopw [4, 5] (fun lv iv wr => ∃ i : Nat, i ≤ n ∧ iv = .int .i64 i ∧ ∃ A c, lv = .slice A i c ∧ Hid (Blk wr w.heap.size 54 [.slice none 0 0, .slice none 0 0, .slice none 0 0, .int .i64 0, .bool false] ∧ Below w.heap.size w wr ∧ EOwn eStr wr (w.heap.size + 1) A c (List.replicate i Zt))) (fun _ iv _ => n - (intOf iv).toNat)
  case atStart => exact ⟨0, by omega, rfl, _, _, rfl, HI.out⟩
  case round =>
    obtain ⟨i, hi, rfl, A, c, rfl, HJ⟩ := hrel
    clear HI
    by_cases hlt : i < n
    · have hii : (i : Int) < (n : Int) := by omega
      have hbl := HJ.out.1.lt
      go_wp2_with (at_builtin; refine wpList_append_elems eStr rfl (.tmp 13) (.tmp 15) rfl i rfl (HJ.out.2.2.below (fresh1 rfl).2.2) (by simp) _ rfl ((fresh1 rfl).1.row eStr [Zt] rfl (by simp [maxLen])) rfl (by simp; omega) (by simp; omega) ?_; intro A3 c3 w3 ho3 hb3 hg3 _; have HN : Hid (Blk w3 w.heap.size 54 [.slice none 0 0, .slice none 0 0, .slice none 0 0, .int .i64 0, .bool false] ∧ Below w.heap.size w w3 ∧ EOwn eStr w3 (w.heap.size + 1) A3 c3 (List.replicate i Zt ++ [Zt])) := ⟨(HJ.out.1.below (fresh1 rfl).2.2).grown hg3 (map_block_ne (HJ.out.2.2.ne_blk HJ.out.1 (by decide))), HJ.out.2.1.trans (((fresh1 rfl).2.2.mono HJ.out.2.1.size).trans (hb3.mono (by omega))), ho3⟩; clear ho3 hb3 hg3)
      go_roundw
      case rel => exact ⟨i + 1, by omega, by go_num, A3, c3, rfl, by rw [List.replicate_succ']; exact HN.out⟩
      case measure => simp [intOf]; omega
    · obtain rfl : i = n := by omega
      have hii : ¬ (i : Int) < (i : Int) := by omega
      have hcc := HJ.out.1.c5
      go_wp2_with fail
      refine ret_set5 HJ.out.1 rfl rfl rfl rfl (fun W hW => load_rx hW) fun W hW hg => ?_
      have hr : RowX S eStr W A (List.replicate i Zt) := RowX.own (HJ.out.2.2.keptG HJ.out.1 (by decide) hg) (fun j hj => by have := hS j hj; omega)
      exact ⟨_, rfl, ⟨A, c, none, 0, none, 0, by simp [RX.fresh], hr, RowX.nil, RowX.nil⟩, below_of_grown HJ.out.2.1 hg (Nat.le_refl _) HJ.out.2.1.size⟩
end Go.Proofs.Ythbanhedjfpmaaa
end

section
/-
  The document's disk: Why, Now, Crash.
-/
namespace Go.Proofs.Ythbanhedjfpmaaa
set_option linter.unusedSimpArgs false
set_option linter.unusedVariables false
open Go.RowKit

/-- A disk as the document has it. -/
def DS.rx (d : DS) : RX := ⟨d.blocks.map (·.sure.l), d.pending.map fun x => (x.at_, x.b.l), d.falls, d.changes, d.down⟩
set_option maxHeartbeats 1000000 in
theorem refwhy_any (S : Nat → Prop) (w : World) (d : DS) (c : List Value) (h : RefX S w c d.rx) (i : Int) : Calls Try.prog 55 #[.agg c.toArray, .int .i64 i] w fun e w' => e = .returned (.int .i64 (d.why i)) ∧ Below w.heap.size w w' := by
  obtain ⟨As, cs, Ap, cp, Af, cf, rfl, -, -, -⟩ := h
  simp only [DS.rx, List.length_map]
  cases hd : d.down with
  | true =>
    have HE : Hid (d.why i = 6) := by show _ = _; unfold DS.why; rw [if_pos hd]
    clear hd
    go_enter Try.func55, Try.ntmps55
    go_wp2_with fail
    go_ret
    rw [HE.out]
    exact ⟨rfl, Below.alloc1 _ _⟩
  | false =>
    by_cases hi : i < 0 ∨ (d.blocks.length : Int) ≤ i
    · have HE : Hid (d.why i = 2) := by show _ = _; unfold DS.why; rw [if_neg (by simp [hd]), if_pos hi]
      clear hd
      rcases hi with hi | hi
      · go_enter Try.func55, Try.ntmps55
        go_wp2_with fail
        go_ret
        rw [HE.out]
        exact ⟨rfl, Below.alloc1 _ _⟩
      · have h0 : ¬ i < 0 := by omega
        go_enter Try.func55, Try.ntmps55
        go_wp2_with fail
        go_ret
        rw [HE.out]
        exact ⟨rfl, Below.alloc1 _ _⟩
    · have HE : Hid (d.why i = 0) := by show _ = _; unfold DS.why; rw [if_neg (by simp [hd]), if_neg hi]
      have h0 : ¬ i < 0 := by omega
      have h1 : ¬ (d.blocks.length : Int) ≤ i := by omega
      clear hd hi
      go_enter Try.func55, Try.ntmps55
      go_wp2_with fail
      go_ret
      rw [HE.out]
      exact ⟨rfl, Below.alloc1 _ _⟩
/-- The last of the writes to block i. -/
def lastW (i : Nat) (s : List UInt8) (ws : List DW) : List UInt8 := ws.foldl (fun s x => if x.at_ = (i : Int) then x.b.l else s) s
theorem lastW_take (i : Nat) (s : List UInt8) (ws : List DW) (k : Nat) (hk : k < ws.length) : lastW i s (ws.take (k + 1)) = if ws[k].at_ = (i : Int) then ws[k].b.l else lastW i s (ws.take k) := by
  unfold lastW
  rw [List.take_succ_eq_append_getElem hk, List.foldl_append]
  rfl
set_option maxHeartbeats 1000000 in
theorem refnow_any (S : Nat → Prop) (w : World) (d : DS) (c : List Value) (h : RefX S w c d.rx) (i : Nat) (hi : i < d.blocks.length) (hp : d.pending.length ≤ 1000000) :
    Calls Try.prog 30 #[.agg c.toArray, .int .i64 i] w fun e w' => e = .returned (txt (lastW i d.blocks[i].sure.l d.pending)) ∧ Below w.heap.size w w' := by
  obtain ⟨As, cs, Ap, cp, Af, cf, rfl, h1, h2, -⟩ := h
  simp only [DS.rx, List.length_map] at h1 h2 ⊢
  have HP := Lib.hid h2.1
  obtain ⟨b, o, rfl, hb, hc⟩ := str_at h1.1 (i := i) (by simpa using hi)
  simp only [List.getElem_map] at hc
  have hii : (i : Int) < (d.blocks.length : Int) := by omega
  clear h1 h2
  go_enter Try.func30, Try.ntmps30
  go_upto_region 1 with (fail)
  generalize hW0 : World.alloc w (.cells _ _) = W
  obtain ⟨ba0, hz0, hB0⟩ := fresh1 hW0
  clear hW0
  have HB0 := Lib.hid hB0
  have hcW := (hB0.cell (p := ⟨b, o + i, none⟩) hb).trans hc
  have hcc := ba0.c5
  have HPW := Lib.hid (HP.out.below hB0)
  clear hB0 ba0 hc
  go_wp2_with fail
  clear hcW
  go_loop [5, 6] (fun sv iv => ∃ k : Nat, k ≤ d.pending.length ∧ iv = .int .i64 k ∧ sv = .string ⟨(lastW i d.blocks[i].sure.l (d.pending.take k)).toArray⟩) (fun _ iv => d.pending.length - (intOf iv).toNat)
  case atStart => exact ⟨0, by omega, rfl, rfl⟩
  case round =>
    obtain ⟨k, hk, rfl, rfl⟩ := hrel
    by_cases hlt : k < d.pending.length
    · have hkk : (k : Int) < (d.pending.length : Int) := by omega
      obtain ⟨b2, o2, rfl, hb2, hc1, hc2⟩ := rw_at HPW.out (i := k) (by simpa using hlt)
      simp only [List.getElem_map] at hc1 hc2
      have HT := Lib.hid (lastW_take i d.blocks[i].sure.l d.pending k hlt)
      generalize d.pending[k] = q at hc1 hc2 HT
      by_cases heq : q.at_ = (i : Int)
      · have hbq : (q.at_ == (i : Int)) = true := by simpa using heq
        have HT2 : Hid (lastW i d.blocks[i].sure.l (d.pending.take (k + 1)) = q.b.l) := by show _ = _; rw [HT.out, if_pos heq]
        clear heq
        go_wp2_with fail
        go_round
        case rel => exact ⟨k + 1, by omega, by go_num, by rw [HT2.out]⟩
        case measure => simp [intOf]; omega
      · have hbq : (q.at_ == (i : Int)) = false := by simpa using heq
        have HT2 : Hid (lastW i d.blocks[i].sure.l (d.pending.take (k + 1)) = lastW i d.blocks[i].sure.l (d.pending.take k)) := by show _ = _; rw [HT.out, if_neg heq]
        clear heq
        go_wp2_with fail
        go_round
        case rel => exact ⟨k + 1, by omega, by go_num, by rw [HT2.out]⟩
        case measure => simp [intOf]; omega
    · obtain rfl : k = d.pending.length := by omega
      have hkk : ¬ (d.pending.length : Int) < (d.pending.length : Int) := by omega
      go_wp2_with fail
      go_ret
      exact ⟨rfl, HB0.out⟩
end Go.Proofs.Ythbanhedjfpmaaa
end

section
/-
  The document's disk: Crash.
-/
namespace Go.Proofs.Ythbanhedjfpmaaa
set_option linter.unusedSimpArgs false
set_option linter.unusedVariables false
open Go.RowKit

theorem keep_mod (f : DF) (hf : f.keep < 18446744073709551616) (k : Nat) : f.keep / 2 ^ k % 2 = if keepB f k = true then 1 else 0 := by
  unfold keepB
  by_cases h : k < 64
  · rw [decide_eq_true h, Bool.true_and, Nat.testBit_eq_decide_div_mod_eq]
    by_cases hb : f.keep / 2 ^ k % 2 = 1
    · rw [hb]; simp
    · have h0 : f.keep / 2 ^ k % 2 = 0 := by omega
      rw [h0]; simp
  · rw [decide_eq_false h, Bool.false_and]
    have h2 : (2 : Nat) ^ 64 ≤ 2 ^ k := Nat.pow_le_pow_right (by decide) (by omega)
    have : f.keep / 2 ^ k = 0 := Nat.div_eq_of_lt (Nat.lt_of_lt_of_le (by simpa using hf) h2)
    rw [this]; rfl
/-- How many bytes of write k stay. -/
def keptN (f : DF) (m : Int) (k : Nat) : Nat := if keepB f k = true then 512 else if (k : Int) = m then tornN f.torn else 0
theorem keptN_le (f : DF) (m : Int) (k : Nat) : keptN f m k ≤ 512 := by
  unfold keptN
  have := tornN_le f.torn
  split
  · omega
  · split <;> omega
theorem hit_sure (x : DB) (f : DF) (m : Int) (k : Nat) (w : DW) : (x.hit f m k w).sure.l = w.b.l.take (keptN f m k) ++ x.sure.l.drop (keptN f m k) := by
  unfold DB.hit keptN
  split
  · rw [List.take_of_length_le (by rw [w.b.h]; exact Nat.le_refl _), List.drop_eq_nil_of_le (by rw [x.sure.h]; exact Nat.le_refl _), List.append_nil]
  · split
    · rfl
    · simp
/-- The sure texts while the writes are gone through. -/
def sureOf (L : List DB) : List (List UInt8) := L.map (·.sure.l)
theorem sureOf_set (L : List DB) (m : Nat) (x : DB) : sureOf (L.set m x) = (sureOf L).set m x.sure.l := List.map_set
set_option maxRecDepth 20000 in
set_option maxHeartbeats 2000000 in
theorem refcrash_any (S : Nat → Prop) (w : World) (hS : ∀ i, S i → i < w.heap.size) (d : DS) (c : List Value) (h : RefX S w c d.rx) (hG : DGood d) (f : DF) (hfk : f.keep < 18446744073709551616) :
    Calls Try.prog 56 #[.agg c.toArray, .agg #[.int .i64 f.at_, .int .u64 (f.keep : Nat), .int .i64 f.torn]] w (RetX S w (d.crash f).rx) := by
  obtain ⟨As, cs, Ap, cp, Af, cf, rfl, h1, h2, h3⟩ := h
  simp only [DS.rx, List.length_map] at h1 h2 h3 ⊢
  have hp1 := hG.p1
  have hb1 := hG.b1
  have HR := Lib.hid (And.intro h1 (And.intro h2 h3))
  clear h1 h2 h3
  cases hd : d.down with
  | true =>
    have HE : Hid (d.crash f = d) := by show _ = _; unfold DS.crash; rw [if_pos hd]
    have HD := Lib.hid hd
    clear hd
    go_enter Try.func56, Try.ntmps56
    go_upto_region 1 with (fail)
    generalize hW0 : (((World.alloc w (.cells _ _)).alloc (.cells _ _)).alloc (.cells _ _)) = W
    obtain ⟨ba0, bb0, bc0, hz0, hB0⟩ := fresh3 hW0
    clear hW0
    have HB := Lib.hid (And.intro ba0 (And.intro bb0 (And.intro bc0 hB0)))
    have hcc := And.intro ba0.c5 bc0.c5
    clear ba0 bb0 bc0 hB0
    go_wp2_with fail
    refine ret_set5 HB.out.2.2.1 rfl rfl rfl rfl (fun W hW => load_rx hW) fun W2 hW hg => ?_
    rw [HE.out]
    exact ⟨_, rfl, ⟨As, cs, Ap, cp, Af, cf, by simp [DS.rx, HD.out], HR.out.1.keptG HB.out.2.2.2 hg (by omega), HR.out.2.1.keptG HB.out.2.2.2 hg (by omega), HR.out.2.2.keptG HB.out.2.2.2 hg (by omega)⟩, below_of_grown HB.out.2.2.2 hg (by omega) (by omega)⟩
  | false =>
    go_enter Try.func56, Try.ntmps56
    go_upto_region 1 with (fail)
    generalize hW0 : (((World.alloc w (.cells _ _)).alloc (.cells _ _)).alloc (.cells _ _)) = W
    obtain ⟨ba0, bb0, bc0, hz0, hB0⟩ := fresh3 hW0
    clear hW0
    have HI : Hid (Below w.heap.size w W ∧ Blk W w.heap.size 54 [.slice As d.blocks.length cs, .slice Ap d.pending.length cp, .slice Af d.falls.length cf, .int .i64 (d.changes : Nat), .bool false] ∧ Blk W (w.heap.size + 1) 25 [.int .i64 f.at_, .int .u64 (f.keep : Nat), .int .i64 f.torn] ∧
        Blk W (w.heap.size + 1 + 1) 54 [.slice none 0 0, .slice none 0 0, .slice none 0 0, .int .i64 0, .bool false] ∧ RowX S eStr W As (sureOf d.blocks) ∧ ∀ a, As = some a → a.block ≠ w.heap.size + 1 + 1) := ⟨hB0, ba0, bb0, bc0, HR.out.1.below hB0, fun a ha => by
      obtain ⟨b, o, e, hb, _⟩ := str_at HR.out.1.1 (i := 0) (by simpa using hG.b0)
      rw [ha] at e
      obtain rfl := Option.some.inj e
      simp only; omega⟩
    have hcc := And.intro ba0.c5 bb0.c3
    clear ba0 bb0 bc0 hB0
    go_wp2_with fail
    clear hcc
    go_loopw [5, 6] (fun kv iv wr => ∃ i : Nat, i ≤ d.pending.length ∧ iv = .int .i64 i ∧ kv = .int .u64 ((f.keep / 2 ^ i : Nat) : Int) ∧ ∃ As cs, Hid (Below w.heap.size w wr ∧ Blk wr w.heap.size 54 [.slice As d.blocks.length cs, .slice Ap d.pending.length cp, .slice Af d.falls.length cf, .int .i64 (d.changes : Nat), .bool false] ∧ Blk wr (w.heap.size + 1) 25 [.int .i64 f.at_, .int .u64 (f.keep : Nat), .int .i64 f.torn] ∧
        Blk wr (w.heap.size + 1 + 1) 54 [.slice none 0 0, .slice none 0 0, .slice none 0 0, .int .i64 0, .bool false] ∧ RowX S eStr wr As (sureOf (hitAll f ((d.pending.length : Int) - 1) (d.pending.take i) 0 d.blocks)) ∧ ∀ a, As = some a → a.block ≠ w.heap.size + 1 + 1)) (fun _ iv _ => d.pending.length - (intOf iv).toNat)
    case atStart => exact ⟨0, by omega, rfl, by simp, As, cs, HI.out⟩
    case round =>
      obtain ⟨i, hi, rfl, rfl, As, cs, HJ⟩ := hrel
      clear HI
      obtain ⟨j1, j2, j3, j4, j5, j6⟩ := HJ.out
      have hcc := And.intro j2.c5 j3.c3
      have hz := j4.lt
      clear j1 j2 j3 j4 j5 j6
      by_cases hlt : i < d.pending.length
      · have hii : (i : Int) < (d.pending.length : Int) := by omega
        obtain ⟨bp, op, rfl, hbp, hc1, hc2⟩ := rw_at (HR.out.2.1.below HJ.out.1).1 (i := i) (by simpa using hlt)
        simp only [List.getElem_map] at hc1 hc2
        have hat := hG.at_ d.pending[i] (List.getElem_mem hlt)
        have HTK := Lib.hid (hitAll_take f ((d.pending.length : Int) - 1) d.pending i d.blocks hlt)
        have hLlen : (hitAll f ((d.pending.length : Int) - 1) (d.pending.take i) 0 d.blocks).length = d.blocks.length := hitAll_length ..
        generalize d.pending[i] = p at hc1 hc2 hat HTK
        obtain ⟨pat, pb⟩ := p
        simp only at hat hc1 hc2
        obtain ⟨m, rfl⟩ : ∃ m : Nat, pat = (m : Int) := ⟨pat.toNat, by omega⟩
        have hn5 := keptN_le f ((d.pending.length : Int) - 1) i
        generalize hLi : hitAll f ((d.pending.length : Int) - 1) (d.pending.take i) 0 d.blocks = Li at HJ HTK hLlen
        clear hLi
        have hmL : m < Li.length := by omega
        have HTK2 : Hid (sureOf (hitAll f ((d.pending.length : Int) - 1) (d.pending.take (i + 1)) 0 d.blocks) = (sureOf Li).set m (pb.l.take (keptN f ((d.pending.length : Int) - 1) i) ++ Li[m].sure.l.drop (keptN f ((d.pending.length : Int) - 1) i))) := by
          show _ = _
          rw [HTK.out, Int.toNat_natCast, sureOf_set, show Li.getD m default = Li[m] from by simp [hmL], hit_sure]
        clear HTK
        have hkm := keep_mod f hfk i
        have HQ2 : Hid (f.keep / 2 ^ (i + 1) = f.keep / 2 ^ i / 2) := by show _ = _; rw [Nat.pow_succ, Nat.div_div_eq_div_mul]
        generalize hqd : f.keep / 2 ^ i = q at hkm HQ2
        have hqlt : q < 18446744073709551616 := by rw [← hqd]; exact Nat.lt_of_le_of_lt (Nat.div_le_self _ _) hfk
        have HWQ : Hid (IntKind.u64.wrap ((q : Int) / 2) = ((f.keep / 2 ^ (i + 1) : Nat) : Int)) := by
          show _ = _
          rw [HQ2.out]
          simp [IntKind.wrap, IntKind.signed, IntKind.bits]
          omega
        clear HQ2 hqlt hqd
        by_cases hkb : keepB f i = true
        · rw [if_pos hkb] at hkm
          have hkq : ((q : Int) % 2 == 1) = true := by simp; omega
          have hkn : keptN f ((d.pending.length : Int) - 1) i = 512 := by unfold keptN; rw [if_pos hkb]
          have HKN := Lib.hid hkn
          clear hkb hkm hkn
          go_upto_region 13 with (fail)
          rw [show (512 : Int) = ((512 : Nat) : Int) from rfl, ← HKN.out]
          clear HKN
          generalize keptN f ((d.pending.length : Int) - 1) i = n at HTK2 hn5
          go_upto_region 14 with (fail)
          obtain ⟨bs, os, rfl, hbs, hcs⟩ := str_at HJ.out.2.2.2.2.1.1 (i := m) (by unfold sureOf; simpa using hmL)
          simp only [sureOf, List.getElem_map] at hcs
          have hpl := pb.h
          have hsl := Li[m].sure.h
          generalize Li[m].sure.l = sl at hcs HTK2 hsl
          generalize pb.l = pl at HTK2 hpl hc2
          generalize hW6 : World.alloc wr (.cells _ _) = W6
          obtain ⟨ba6, hz6, hB6⟩ := fresh1 hW6
          clear hW6
          have hcs6 := (hB6.cell (p := ⟨bs, os + m, none⟩) hbs).trans hcs
          have hcc6 := And.intro (HJ.out.2.1.below hB6).c5 ba6.c2
          have H6 : Hid (Below w.heap.size w W6 ∧ Blk W6 w.heap.size 54 [.slice (some ⟨bs, os, none⟩) d.blocks.length cs, .slice (some ⟨bp, op, none⟩) d.pending.length cp, .slice Af d.falls.length cf, .int .i64 (d.changes : Nat), .bool false] ∧ Blk W6 (w.heap.size + 1) 25 [.int .i64 f.at_, .int .u64 (f.keep : Nat), .int .i64 f.torn] ∧
              Blk W6 (w.heap.size + 1 + 1) 54 [.slice none 0 0, .slice none 0 0, .slice none 0 0, .int .i64 0, .bool false] ∧ RowX S eStr W6 (some ⟨bs, os, none⟩) (sureOf Li)) := ⟨HJ.out.1.trans (hB6.mono HJ.out.1.size), HJ.out.2.1.below hB6, HJ.out.2.2.1.below hB6, HJ.out.2.2.2.1.below hB6, HJ.out.2.2.2.2.1.below hB6⟩
          have hx1 : (ByteArray.mk pl.toArray).extract 0 n = ⟨(pl.take n).toArray⟩ := cut_head pl n
          have hx2 : (ByteArray.mk sl.toArray).extract n sl.length = ⟨(sl.drop n).toArray⟩ := cut_end sl n
          have hx3 := cut_join (pl.take n) (sl.drop n)
          have hmi : (m : Int) < (d.blocks.length : Int) := hat.2
          have hnp : (n : Int) ≤ (pl.length : Int) := by omega
          have hns : (n : Int) ≤ (sl.length : Int) := by omega
          have hsum : ¬ 9223372036854775807 < min n pl.length + (sl.length - n) := by omega
          have HH := Lib.hid (And.intro hpl hsl)
          clear hB6 ba6 hcs hc1 hc2 hcc HJ hpl hsl
          have hlen : (sureOf Li).length = d.blocks.length := by unfold sureOf; rw [List.length_map, hLlen]
          have hcw := with_any W6.drew (some ⟨bs, os, none⟩) cs (sureOf Li) (m : Int) (pl.take n ++ sl.drop n) (H6.out.2.2.2.2.below (below_drew _)).1 (by omega) (by omega) (by omega)
          rw [hlen] at hcw
          have HCW := Lib.hid hcw
          have HLN := Lib.hid hlen
          clear hcw hlen
          refine wp_region_plan (.take 0 (.take 1 (.take 2 (.take 3 (.take 4 (.take 5 (.take 6 (.take 7 (.take 8 (.take 9 (.take 10 (.take 11 (.take 12 (.take 13 (.take 14 (.take 15 (.take 16 (.run 17 [] (.take 18 (.run 19 [] .fin)))))))))))))))))))) (by kernel_rfl) (by kernel_rfl) (by kernel_rfl) (by kernel_rfl) ?_
          simp only [walk, again, sel, List.getElem?_toArray, List.getElem?_cons_zero, List.getElem?_cons_succ]
          repeat ((with_reducible intro Z hZ); go_wp2_with (fail))
          refine HCW.out.mono ?_
          rintro e w7 ⟨A7, c7, rfl, ho7, hb7⟩
          rw [List.length_set, HLN.out]
          have H7 : Hid (Below w.heap.size w w7 ∧ Blk w7 w.heap.size 54 [.slice (some ⟨bs, os, none⟩) d.blocks.length cs, .slice (some ⟨bp, op, none⟩) d.pending.length cp, .slice Af d.falls.length cf, .int .i64 (d.changes : Nat), .bool false] ∧ Blk w7 (w.heap.size + 1) 25 [.int .i64 f.at_, .int .u64 (f.keep : Nat), .int .i64 f.torn] ∧
              Blk w7 (w.heap.size + 1 + 1) 54 [.slice none 0 0, .slice none 0 0, .slice none 0 0, .int .i64 0, .bool false] ∧ EOwn eStr w7 W6.heap.size A7 c7 ((sureOf Li).set m (pl.take n ++ sl.drop n))) := ⟨H6.out.1.trans (((below_drew W6).trans hb7).mono H6.out.1.size), H6.out.2.1.drew.below hb7, H6.out.2.2.1.drew.below hb7, H6.out.2.2.2.1.drew.below hb7, ho7⟩
          have hcc7 := H7.out.2.1.c5
          clear hcc6 hcs6 ho7 hb7 hx1 hx2 hx3 HCW
          go_wp2_with fail
          repeat ((with_reducible intro Z hZ); go_wp2_with (fail))
          go_roundw
          case rel =>
            obtain ⟨g1, g2, g3, g4, g5⟩ := H7.out
            refine ⟨i + 1, by omega, by go_num, by rw [HWQ.out], A7, c7, g1.setCell (p := ⟨w.heap.size, 0, none⟩) (Nat.le_refl _) _, g2.set0, g3.other ⟨w.heap.size, 0, none⟩ (by simp) _, g4.other ⟨w.heap.size, 0, none⟩ (by simp; omega) _, ?_⟩
            rw [HTK2.out]
            exact ⟨RowX.own (g5.set ⟨w.heap.size, 0, none⟩ (fun a ha => by have := (g5.block a ha).1; simp only; omega) _) (fun j hj => by have := hS j hj; omega), fun a ha => by have := (g5.block a ha).1; omega⟩
          case measure => simp [intOf]; omega
        · rw [if_neg hkb] at hkm
          have hkq : ((q : Int) % 2 == 1) = false := by simp; omega
          by_cases hil : (i : Int) = (d.pending.length : Int) - 1
          · have hib : ((i : Int) == (d.pending.length : Int) - 1) = true := by simpa using hil
            have hkn : keptN f ((d.pending.length : Int) - 1) i = tornN f.torn := by unfold keptN; rw [if_neg hkb, if_pos hil]
            have htn : (if 0 < if 512 < f.torn then 512 else f.torn then if 512 < f.torn then 512 else f.torn else 0) = (tornN f.torn : Int) := by
              unfold tornN
              split <;> split at * <;> omega
            have HKN := Lib.hid (And.intro hkn htn)
            clear hkb hkm hkn htn hil
            go_upto_region 13 with (fail)
            generalize (if 512 < f.torn then (512 : Int) else f.torn) = mn at HKN ⊢
            rw [HKN.out.2, ← HKN.out.1]
            clear HKN
            generalize keptN f ((d.pending.length : Int) - 1) i = n at HTK2 hn5
            go_upto_region 14 with (fail)
            obtain ⟨bs, os, rfl, hbs, hcs⟩ := str_at HJ.out.2.2.2.2.1.1 (i := m) (by unfold sureOf; simpa using hmL)
            simp only [sureOf, List.getElem_map] at hcs
            have hpl := pb.h
            have hsl := Li[m].sure.h
            generalize Li[m].sure.l = sl at hcs HTK2 hsl
            generalize pb.l = pl at HTK2 hpl hc2
            generalize hW6 : World.alloc wr (.cells _ _) = W6
            obtain ⟨ba6, hz6, hB6⟩ := fresh1 hW6
            clear hW6
            have hcs6 := (hB6.cell (p := ⟨bs, os + m, none⟩) hbs).trans hcs
            have hcc6 := And.intro (HJ.out.2.1.below hB6).c5 ba6.c2
            have H6 : Hid (Below w.heap.size w W6 ∧ Blk W6 w.heap.size 54 [.slice (some ⟨bs, os, none⟩) d.blocks.length cs, .slice (some ⟨bp, op, none⟩) d.pending.length cp, .slice Af d.falls.length cf, .int .i64 (d.changes : Nat), .bool false] ∧ Blk W6 (w.heap.size + 1) 25 [.int .i64 f.at_, .int .u64 (f.keep : Nat), .int .i64 f.torn] ∧
                Blk W6 (w.heap.size + 1 + 1) 54 [.slice none 0 0, .slice none 0 0, .slice none 0 0, .int .i64 0, .bool false] ∧ RowX S eStr W6 (some ⟨bs, os, none⟩) (sureOf Li)) := ⟨HJ.out.1.trans (hB6.mono HJ.out.1.size), HJ.out.2.1.below hB6, HJ.out.2.2.1.below hB6, HJ.out.2.2.2.1.below hB6, HJ.out.2.2.2.2.1.below hB6⟩
            have hx1 : (ByteArray.mk pl.toArray).extract 0 n = ⟨(pl.take n).toArray⟩ := cut_head pl n
            have hx2 : (ByteArray.mk sl.toArray).extract n sl.length = ⟨(sl.drop n).toArray⟩ := cut_end sl n
            have hx3 := cut_join (pl.take n) (sl.drop n)
            have hmi : (m : Int) < (d.blocks.length : Int) := hat.2
            have hnp : (n : Int) ≤ (pl.length : Int) := by omega
            have hns : (n : Int) ≤ (sl.length : Int) := by omega
            have hsum : ¬ 9223372036854775807 < min n pl.length + (sl.length - n) := by omega
            have HH := Lib.hid (And.intro hpl hsl)
            clear hB6 ba6 hcs hc1 hc2 hcc HJ hpl hsl
            have hlen : (sureOf Li).length = d.blocks.length := by unfold sureOf; rw [List.length_map, hLlen]
            have hcw := with_any W6.drew (some ⟨bs, os, none⟩) cs (sureOf Li) (m : Int) (pl.take n ++ sl.drop n) (H6.out.2.2.2.2.below (below_drew _)).1 (by omega) (by omega) (by omega)
            rw [hlen] at hcw
            have HCW := Lib.hid hcw
            have HLN := Lib.hid hlen
            clear hcw hlen
            refine wp_region_plan (.take 0 (.take 1 (.take 2 (.take 3 (.take 4 (.take 5 (.take 6 (.take 7 (.take 8 (.take 9 (.take 10 (.take 11 (.take 12 (.take 13 (.take 14 (.take 15 (.take 16 (.run 17 [] (.take 18 (.run 19 [] .fin)))))))))))))))))))) (by kernel_rfl) (by kernel_rfl) (by kernel_rfl) (by kernel_rfl) ?_
            simp only [walk, again, sel, List.getElem?_toArray, List.getElem?_cons_zero, List.getElem?_cons_succ]
            repeat ((with_reducible intro Z hZ); go_wp2_with (fail))
            refine HCW.out.mono ?_
            rintro e w7 ⟨A7, c7, rfl, ho7, hb7⟩
            rw [List.length_set, HLN.out]
            have H7 : Hid (Below w.heap.size w w7 ∧ Blk w7 w.heap.size 54 [.slice (some ⟨bs, os, none⟩) d.blocks.length cs, .slice (some ⟨bp, op, none⟩) d.pending.length cp, .slice Af d.falls.length cf, .int .i64 (d.changes : Nat), .bool false] ∧ Blk w7 (w.heap.size + 1) 25 [.int .i64 f.at_, .int .u64 (f.keep : Nat), .int .i64 f.torn] ∧
                Blk w7 (w.heap.size + 1 + 1) 54 [.slice none 0 0, .slice none 0 0, .slice none 0 0, .int .i64 0, .bool false] ∧ EOwn eStr w7 W6.heap.size A7 c7 ((sureOf Li).set m (pl.take n ++ sl.drop n))) := ⟨H6.out.1.trans (((below_drew W6).trans hb7).mono H6.out.1.size), H6.out.2.1.drew.below hb7, H6.out.2.2.1.drew.below hb7, H6.out.2.2.2.1.drew.below hb7, ho7⟩
            have hcc7 := H7.out.2.1.c5
            clear hcc6 hcs6 ho7 hb7 hx1 hx2 hx3 HCW
            go_wp2_with fail
            repeat ((with_reducible intro Z hZ); go_wp2_with (fail))
            go_roundw
            case rel =>
              obtain ⟨g1, g2, g3, g4, g5⟩ := H7.out
              refine ⟨i + 1, by omega, by go_num, by rw [HWQ.out], A7, c7, g1.setCell (p := ⟨w.heap.size, 0, none⟩) (Nat.le_refl _) _, g2.set0, g3.other ⟨w.heap.size, 0, none⟩ (by simp) _, g4.other ⟨w.heap.size, 0, none⟩ (by simp; omega) _, ?_⟩
              rw [HTK2.out]
              exact ⟨RowX.own (g5.set ⟨w.heap.size, 0, none⟩ (fun a ha => by have := (g5.block a ha).1; simp only; omega) _) (fun j hj => by have := hS j hj; omega), fun a ha => by have := (g5.block a ha).1; omega⟩
            case measure => simp [intOf]; omega
          · have hib : ((i : Int) == (d.pending.length : Int) - 1) = false := by simpa using hil
            have hkn : keptN f ((d.pending.length : Int) - 1) i = 0 := by unfold keptN; rw [if_neg hkb, if_neg hil]
            have HKN := Lib.hid hkn
            clear hkb hkm hkn hil
            go_upto_region 13 with (fail)
            rw [show Value.int IntKind.i64 0 = Value.int IntKind.i64 ((keptN f ((d.pending.length : Int) - 1) i : Nat) : Int) from by rw [HKN.out]; rfl]
            clear HKN
            generalize keptN f ((d.pending.length : Int) - 1) i = n at HTK2 hn5
            go_upto_region 14 with (fail)
            obtain ⟨bs, os, rfl, hbs, hcs⟩ := str_at HJ.out.2.2.2.2.1.1 (i := m) (by unfold sureOf; simpa using hmL)
            simp only [sureOf, List.getElem_map] at hcs
            have hpl := pb.h
            have hsl := Li[m].sure.h
            generalize Li[m].sure.l = sl at hcs HTK2 hsl
            generalize pb.l = pl at HTK2 hpl hc2
            generalize hW6 : World.alloc wr (.cells _ _) = W6
            obtain ⟨ba6, hz6, hB6⟩ := fresh1 hW6
            clear hW6
            have hcs6 := (hB6.cell (p := ⟨bs, os + m, none⟩) hbs).trans hcs
            have hcc6 := And.intro (HJ.out.2.1.below hB6).c5 ba6.c2
            have H6 : Hid (Below w.heap.size w W6 ∧ Blk W6 w.heap.size 54 [.slice (some ⟨bs, os, none⟩) d.blocks.length cs, .slice (some ⟨bp, op, none⟩) d.pending.length cp, .slice Af d.falls.length cf, .int .i64 (d.changes : Nat), .bool false] ∧ Blk W6 (w.heap.size + 1) 25 [.int .i64 f.at_, .int .u64 (f.keep : Nat), .int .i64 f.torn] ∧
                Blk W6 (w.heap.size + 1 + 1) 54 [.slice none 0 0, .slice none 0 0, .slice none 0 0, .int .i64 0, .bool false] ∧ RowX S eStr W6 (some ⟨bs, os, none⟩) (sureOf Li)) := ⟨HJ.out.1.trans (hB6.mono HJ.out.1.size), HJ.out.2.1.below hB6, HJ.out.2.2.1.below hB6, HJ.out.2.2.2.1.below hB6, HJ.out.2.2.2.2.1.below hB6⟩
            have hx1 : (ByteArray.mk pl.toArray).extract 0 n = ⟨(pl.take n).toArray⟩ := cut_head pl n
            have hx2 : (ByteArray.mk sl.toArray).extract n sl.length = ⟨(sl.drop n).toArray⟩ := cut_end sl n
            have hx3 := cut_join (pl.take n) (sl.drop n)
            have hmi : (m : Int) < (d.blocks.length : Int) := hat.2
            have hnp : (n : Int) ≤ (pl.length : Int) := by omega
            have hns : (n : Int) ≤ (sl.length : Int) := by omega
            have hsum : ¬ 9223372036854775807 < min n pl.length + (sl.length - n) := by omega
            have HH := Lib.hid (And.intro hpl hsl)
            clear hB6 ba6 hcs hc1 hc2 hcc HJ hpl hsl
            have hlen : (sureOf Li).length = d.blocks.length := by unfold sureOf; rw [List.length_map, hLlen]
            have hcw := with_any W6.drew (some ⟨bs, os, none⟩) cs (sureOf Li) (m : Int) (pl.take n ++ sl.drop n) (H6.out.2.2.2.2.below (below_drew _)).1 (by omega) (by omega) (by omega)
            rw [hlen] at hcw
            have HCW := Lib.hid hcw
            have HLN := Lib.hid hlen
            clear hcw hlen
            refine wp_region_plan (.take 0 (.take 1 (.take 2 (.take 3 (.take 4 (.take 5 (.take 6 (.take 7 (.take 8 (.take 9 (.take 10 (.take 11 (.take 12 (.take 13 (.take 14 (.take 15 (.take 16 (.run 17 [] (.take 18 (.run 19 [] .fin)))))))))))))))))))) (by kernel_rfl) (by kernel_rfl) (by kernel_rfl) (by kernel_rfl) ?_
            simp only [walk, again, sel, List.getElem?_toArray, List.getElem?_cons_zero, List.getElem?_cons_succ]
            repeat ((with_reducible intro Z hZ); go_wp2_with (fail))
            refine HCW.out.mono ?_
            rintro e w7 ⟨A7, c7, rfl, ho7, hb7⟩
            rw [List.length_set, HLN.out]
            have H7 : Hid (Below w.heap.size w w7 ∧ Blk w7 w.heap.size 54 [.slice (some ⟨bs, os, none⟩) d.blocks.length cs, .slice (some ⟨bp, op, none⟩) d.pending.length cp, .slice Af d.falls.length cf, .int .i64 (d.changes : Nat), .bool false] ∧ Blk w7 (w.heap.size + 1) 25 [.int .i64 f.at_, .int .u64 (f.keep : Nat), .int .i64 f.torn] ∧
                Blk w7 (w.heap.size + 1 + 1) 54 [.slice none 0 0, .slice none 0 0, .slice none 0 0, .int .i64 0, .bool false] ∧ EOwn eStr w7 W6.heap.size A7 c7 ((sureOf Li).set m (pl.take n ++ sl.drop n))) := ⟨H6.out.1.trans (((below_drew W6).trans hb7).mono H6.out.1.size), H6.out.2.1.drew.below hb7, H6.out.2.2.1.drew.below hb7, H6.out.2.2.2.1.drew.below hb7, ho7⟩
            have hcc7 := H7.out.2.1.c5
            clear hcc6 hcs6 ho7 hb7 hx1 hx2 hx3 HCW
            go_wp2_with fail
            repeat ((with_reducible intro Z hZ); go_wp2_with (fail))
            go_roundw
            case rel =>
              obtain ⟨g1, g2, g3, g4, g5⟩ := H7.out
              refine ⟨i + 1, by omega, by go_num, by rw [HWQ.out], A7, c7, g1.setCell (p := ⟨w.heap.size, 0, none⟩) (Nat.le_refl _) _, g2.set0, g3.other ⟨w.heap.size, 0, none⟩ (by simp) _, g4.other ⟨w.heap.size, 0, none⟩ (by simp; omega) _, ?_⟩
              rw [HTK2.out]
              exact ⟨RowX.own (g5.set ⟨w.heap.size, 0, none⟩ (fun a ha => by have := (g5.block a ha).1; simp only; omega) _) (fun j hj => by have := hS j hj; omega), fun a ha => by have := (g5.block a ha).1; omega⟩
            case measure => simp [intOf]; omega
      · obtain rfl : i = d.pending.length := by omega
        have hii : ¬ (d.pending.length : Int) < (d.pending.length : Int) := by omega
        have hcc4 := HJ.out.2.2.2.1.c5
        go_wp2_with fail
        refine ret_set5 HJ.out.2.2.2.1 rfl rfl rfl rfl (fun W hW => load_rx hW) fun W2 hW hg => ?_
        have HS : (d.crash f).rx = ⟨sureOf (hitAll f ((d.pending.length : Int) - 1) d.pending 0 d.blocks), [], d.falls, d.changes, true⟩ := by
          unfold DS.crash
          rw [if_neg (by simp [hd])]
          simp [DS.rx, sureOf, List.map_map, Function.comp_def]
        show RetX S w (d.crash f).rx _ _
        rw [HS]
        have hb := HJ.out.1
        have hr := HJ.out.2.2.2.2.1
        rw [List.take_length] at hr
        have hr2 : RowX S eStr W2 As (sureOf (hitAll f ((d.pending.length : Int) - 1) d.pending 0 d.blocks)) := ⟨hr.1.keep hg.size fun a ha hlt' => hg.block _ hlt' (by simpa using HJ.out.2.2.2.2.2 a ha), hr.2⟩
        exact ⟨_, rfl, ⟨As, cs, none, 0, Af, cf, by simp [sureOf, hitAll_length], hr2, RowX.nil, HR.out.2.2.keptG hb hg (by omega)⟩, below_of_grown hb hg (by omega) (by omega)⟩
end Go.Proofs.Ythbanhedjfpmaaa
end

section
/-
  The document's disk: strike, Put, Flush.
-/
namespace Go.Proofs.Ythbanhedjfpmaaa
set_option linter.unusedSimpArgs false
set_option linter.unusedVariables false
open Go.RowKit

theorem DGood.tick {d : DS} (h : DGood d) (n : Nat) : DGood { d with changes := n } := ⟨h.b0, h.b1, h.p1, h.f1, h.at_, h.fk⟩
set_option maxRecDepth 20000 in
set_option maxHeartbeats 2000000 in
theorem refstrike_any (S : Nat → Prop) (w : World) (hS : ∀ i, S i → i < w.heap.size) (d : DS) (c : List Value) (h : RefX S w c d.rx) (hG : DGood d) (hch : d.changes < 1000000000) :
    Calls Try.prog 60 #[.agg c.toArray] w (RetXN S w (d.strike.1.rx, d.strike.2)) := by
  obtain ⟨As, cs, Ap, cp, Af, cf, rfl, h1, h2, h3⟩ := h
  simp only [DS.rx, List.length_map] at h1 h2 h3 ⊢
  have hf1 := hG.f1
  have HR := Lib.hid (And.intro h1 (And.intro h2 h3))
  have HST : Hid (d.strike = match fallFrom d.falls (d.changes : Int) 0 with
    | some f => (({ d with changes := d.changes + 1 } : DS).crash f, 6)
    | none => ({ d with changes := d.changes + 1 }, 0)) := by show _ = _; unfold DS.strike fallFrom; rfl
  clear h1 h2 h3
  go_enter Try.func60, Try.ntmps60
  go_upto_region 3 with (fail)
  generalize hW0 : ((World.alloc w (.cells _ _)).alloc (.cells _ _)) = W
  obtain ⟨ba0, bb0, hz0, hB0⟩ := fresh2 hW0
  clear hW0
  have HX := Lib.hid (And.intro ba0 (And.intro bb0 hB0))
  have hcc := And.intro ba0.c5 bb0.c5
  clear ba0 bb0 hB0
  go_wp2_with fail
  clear hcc
  go_loop [5] (fun iv => ∃ i : Nat, i ≤ d.falls.length ∧ iv = .int .i64 i ∧ Hid (fallFrom d.falls (d.changes : Int) 0 = fallFrom d.falls (d.changes : Int) i)) (fun iv => d.falls.length - (intOf iv).toNat)
  case atStart => exact ⟨0, by omega, rfl, rfl⟩
  case round =>
    obtain ⟨i, hi, rfl, HFF⟩ := hrel
    have hcc := And.intro HX.out.1.c5 HX.out.2.1.c5
    by_cases hlt2 : i < d.falls.length
    · have hii : (i : Int) < (d.falls.length : Int) := by omega
      obtain ⟨b, o, rfl, hb, d0, d1, d2⟩ := fall_at (HR.out.2.2.below HX.out.2.2).1 hlt2
      have hfk := hG.fk d.falls[i] (List.getElem_mem hlt2)
      by_cases he : d.falls[i].at_ = (d.changes : Int)
      · have heb : (d.falls[i].at_ == (d.changes : Int)) = true := by simpa using he
        have HF := Lib.hid (fallFrom_hit hlt2 he)
        clear he
        generalize d.falls[i] = f at d0 d1 d2 hfk heb HF
        have HC := Lib.hid (refcrash_any S W.drew (fun j hj => Nat.lt_of_lt_of_le (hS j hj) HX.out.2.2.size) { d with changes := d.changes + 1 } [.slice As d.blocks.length cs, .slice Ap d.pending.length cp, .slice (some ⟨b, o, none⟩) d.falls.length cf, .int .i64 ((d.changes : Int) + 1), .bool d.down] ⟨As, cs, Ap, cp, some ⟨b, o, none⟩, cf, by simp [DS.rx], HR.out.1.below HX.out.2.2.drewR, HR.out.2.1.below HX.out.2.2.drewR, HR.out.2.2.below HX.out.2.2.drewR⟩ (hG.tick _) f hfk.1)
        go_wp2_with fail
        refine wp_region_plan (.take 0 (.take 1 (.take 2 (.take 3 (.take 4 (.take 5 (.run 6 [] (.run 7 [] (.take 8 .fin))))))))) (by kernel_rfl) (by kernel_rfl) (by kernel_rfl) (by kernel_rfl) ?_
        simp only [walk, again, sel, List.getElem?_toArray, List.getElem?_cons_zero, List.getElem?_cons_succ]
        repeat ((with_reducible intro Z hZ); go_wp2_with (fail))
        have HXE : Hid ((d.strike.1.rx, d.strike.2) = ((({ d with changes := d.changes + 1 } : DS).crash f).rx, 6)) := by
          show _ = _
          rw [HST.out, HFF.out, HF.out]
        generalize (({ d with changes := d.changes + 1 } : DS).crash f).rx = x7 at HC HXE
        refine HC.out.mono ?_
        rintro e w7 ⟨c7, rfl, hx7, hb7⟩
        have HX7 := Lib.hid (And.intro (HX.out.2.1.drew.below hb7) (And.intro (HX.out.2.2.then ((below_drew W).trans hb7)) hx7))
        obtain ⟨As7, cs7, Ap7, cp7, Af7, cf7, rfl, -, -, -⟩ := hx7
        have hcc7 := HX7.out.1.c5
        clear hcc hb7 HC d0 d1 d2
        go_wp2_with fail
        repeat ((with_reducible intro Z hZ); go_wp2_with (fail))
        refine ret_set5n HX7.out.1 rfl rfl rfl rfl rfl (fun W hW => load_rx hW) fun W2 hW hg => ?_
        show RetXN S w (d.strike.1.rx, d.strike.2) _ _
        rw [HXE.out]
        exact ⟨_, rfl, HX7.out.2.2.keptG HX7.out.1 hg, below_of_grown HX7.out.2.1 hg (by omega) HX7.out.2.1.size⟩
      · have heb : (d.falls[i].at_ == (d.changes : Int)) = false := by simpa using he
        have HF := Lib.hid (fallFrom_miss hlt2 he)
        clear he
        generalize d.falls[i] = f at d0 d1 d2 hfk heb
        go_wp2_with fail
        go_round
        case rel => exact ⟨i + 1, by omega, by go_num, HFF.out.trans HF.out⟩
        case measure => simp [intOf]; omega
    · have hii : ¬ (i : Int) < (d.falls.length : Int) := by omega
      go_wp2_with fail
      refine ret_set5n HX.out.2.1 rfl rfl rfl rfl rfl (fun W hW => load_rx hW) fun W2 hW hg => ?_
      have HE : d.strike = ({ d with changes := d.changes + 1 }, 0) := by rw [HST.out, HFF.out, fallFrom_end (by omega)]
      show RetXN S w (d.strike.1.rx, d.strike.2) _ _
      rw [HE]
      exact ⟨_, rfl, ⟨As, cs, Ap, cp, Af, cf, by simp [DS.rx], HR.out.1.keptG HX.out.2.2 hg (by omega), HR.out.2.1.keptG HX.out.2.2 hg (by omega), HR.out.2.2.keptG HX.out.2.2 hg (by omega)⟩, below_of_grown HX.out.2.2 hg (by omega) (by omega)⟩
end Go.Proofs.Ythbanhedjfpmaaa
end

