/-
  The walk of CrcOwn.
-/
import Derived.Test.YtgdlfihiheeniaaCrcFns
namespace Go.Proofs.Ytgdlfihiheeniaa
open Go.RowKit

set_option maxHeartbeats 1000000 in
theorem crcOwn_walk (w : World) (A : Option Addr) (c : Nat) (l : List UInt8) (hr : BRow w A l) (_hc : l.length ≤ c) (_hm : c ≤ maxLen) :
    Calls Try.prog 7 #[.slice A l.length c] w fun e w' => e = .returned (.bool true) ∧ Below w.heap.size w w' := by
  by_cases h1 : 500 < l.length
  · go_enter Try.func7, Try.ntmps7
    go_wp2_with fail
    refine (lives_any w).mono ?_
    rintro e w1 ⟨rfl, hb1⟩
    go_wp2_with fail
    refine (lives_any _).mono ?_
    rintro e w2 ⟨rfl, hb2⟩
    go_wp2_with fail
    go_ret
    exact ⟨rfl, hb1.trans (hb2.mono hb1.size)⟩
  go_enter Try.func7, Try.ntmps7
  go_wp2_with fail
  refine (lives_any w).mono ?_
  rintro e w1 ⟨rfl, hb1⟩
  have hr1 := hr.below hb1
  have hs1 := hb1.size
  have hrow4 : ∀ W : World, BRow (W.alloc (.cells #[.int .u8 1, .int .u8 2, .int .u8 3, .int .u8 4] 5)) (some ⟨W.heap.size, 0, none⟩) [1, 2, 3, 4] := fun W => Row.new W ([1, 2, 3, 4].map bv) 5
  have HR4 := Lib.hid hrow4
  clear hrow4
  go_wp2_with (first
    | (at_make; refine wpList_make_bytes (B := w.heap.size) rfl _ _ rfl .i64 .i64 _ (l.length + 8) rfl rfl (by omega) (by omega) hs1 ?_; intro w2 ho2 hb2)
    | (at_builtin; refine wpList_append_bytes rfl (.tmp 20) (.tmp 21) rfl _ rfl ho2 rfl _ rfl (hr1.below (hb2.mono (Nat.le_refl _))) rfl (by simp; omega) (by have := hb2.size; omega) ?_; intro A3 c3 w3 ho3 hb3 _ _; simp only [List.nil_append] at ho3)
    | (at_builtin; refine wpList_append_bytes rfl (.tmp 22) (.tmp 23) rfl _ rfl (ho3.alloc _) rfl _ rfl (HR4.out _) rfl (by simp; omega) (by have := hb2.size; have := hb3.size; simp; omega) ?_; intro A4 c4 w4 ho4 hb4 _ _; have hcap4 : l.length + 4 ≤ c4 := (by have := ho4.cap; simpa using this)))
  have hB4 : Below w.heap.size w w4 := by
    have h2 := hb1.trans (hb2.mono hs1)
    have h3 := h2.trans hb3
    exact (h3.alloc h3.size _).trans hb4
  have hs4 := hB4.size
  have hr4 := ho4.row
  have hrl : BRow w4 A4 l := by simpa using hr4.take l.length
  have hr44 : BRow w4 (A4.map fun x => x.add l.length) [1, 2, 3, 4] := by simpa using hr4.drop l.length
  have hrA := hr.below hB4
  clear ho2 hb2 ho3 hb3 hb4 ho4 hr1 hr4 HR4 hr hb1 hs1
  refine (seal_any w4 A4 c4 l hrl (by omega)).mono ?_
  rintro e w5 ⟨A5, c5, rfl, ho5, hb5⟩
  have hcap5 := ho5.cap
  have hlen := Crc.sealed_length l
  obtain ⟨g, hA, hg1, hg2, _, _⟩ := ho5.form.resolve_left (by rintro ⟨_, _, h⟩; rw [h] at hlen; simp at hlen)
  subst hA
  rw [hlen] at hcap5 ⊢
  have HL := Lib.hid hlen
  clear hlen
  have hrow5 := ho5.row
  have hs5 := hb5.size
  go_wp2_with fail
  refine (open_ok w5 _ c5 l.length l (Crc.le4 (Crc.sum l)) rfl rfl hrow5 (by omega) hcap5 (by simp [Crc.sealed])).mono ?_
  rintro e w6 ⟨A6, c6, rfl, ho6, hb6⟩
  have hblk := ho6.block
  have hr6 := ho6.row
  have HBLK := Lib.hid hblk
  clear ho6 hblk
  have hs6 := hb6.size
  have ho56 := ho5.below hb6
  have hB46 : Below w4.heap.size w4 w6 := hb5.trans (hb6.mono hs5)
  clear ho5 hb5 hb6 hrow5
  go_wp2_with fail
  go_loopw [38] (fun iv wr => ∃ (i : Nat) (L : List UInt8), i ≤ l.length + 4 ∧ iv = .int .i64 i ∧ Hid (L.length = l.length + 4) ∧ BOwn wr w4.heap.size (some ⟨g, 0, none⟩) c5 L ∧ Below w4.heap.size w4 wr ∧ BRow wr A6 l) (fun iv _ => l.length + 4 - (intOf iv).toNat)
  case atStart => exact ⟨0, _, by omega, rfl, HL, ho56, hB46, hr6⟩
  case round =>
    obtain ⟨i, L, hi, rfl, HLL, hown, hB, hr6r⟩ := hrel
    clear ho56 hB46 hr6
    by_cases hlt : i < l.length + 4
    · have hiL : i < L.length := by rw [HLL.out]; exact hlt
      have hcell := hown.cell hiL
      have hfree := hown.free i
      have hcl := L[i].toNat_lt
      have hx := u8_xor_nat L[i].toNat 255 hcl (by omega)
      have HX := Lib.hid hx
      generalize hcc : L[i].toNat = cc at hcell hcl HX
      have HCC := Lib.hid hcc
      clear hcc hx
      go_wp2_with fail
      go_roundw
      case rel =>
        refine ⟨i + 1, L.set i (L[i] ^^^ 255), by omega, by go_num, by show _ = _; rw [List.length_set]; exact HLL.out, ?_, hB.setCell (p := ⟨g, i, none⟩) hg1 _, ?_⟩
        · refine hown.store i _ _ ?_
          have h := HX.out
          have e : (255 : Int) = ((255 : Nat) : Int) := rfl
          rw [e, h, ← HCC.out, bv, UInt8.toNat_xor]
          rfl
        · exact hr6r.far (fun a ha => by have := (HBLK.out a ha).1; show a.block ≠ g; omega) _
      case measure => simp [intOf]; omega
    · have hcv1 := run_string_bytes wr c4 (hrl.below hB)
      have hcv2 := run_string_bytes wr c (hrA.below hB)
      have hcv3 := run_string_bytes wr c6 hr6r
      have hcv4 := run_string_bytes wr (c4 - l.length) (hr44.below hB)
      have e4 : ([1, 2, 3, 4] : List UInt8).length = 4 := rfl
      rw [e4] at hcv4
      unfold txt at hcv1 hcv2 hcv3 hcv4
      go_wp2_with fail
      go_ret
      exact ⟨rfl, hB4.trans (hB.mono hs4)⟩
end Go.Proofs.Ytgdlfihiheeniaa
