/-
  The contract of the law's lives.
-/
import Derived.Test.YthbanhedjfpmaaaDiskLaw
namespace Go.Proofs.Ythbanhedjfpmaaa
set_option linter.unusedSimpArgs false
set_option linter.unusedVariables false
open Go.RowKit

theorem DL.writeB {w0 w : World} {k : KB} {d : DS} {n : Nat} (h : DL w0 w k d n) (hn : n < 1000000) (i : Int) (A : Option Addr) (c : Nat) (l : List UInt8) (hl : l.length = 512) (hr : BRow w A l) :
    Calls Try.prog 17 #[.pointer (some ⟨k.gd, 0, none⟩), .int .i64 i, .slice A 512 c] w fun e w' => e = .returned (.int .i64 (d.write i l).2) ∧ DL w0 w' k (d.write i l).1 (n + 1) ∧ Keeps w w' k.own := by
  rw [← hl]; exact h.write hn i A c l hr
theorem write_fill (d : DS) (i : Int) (c : UInt8) (s : List UInt8) (h : d.why i = 0) : d.write i (fillL c s) = d.put i.toNat (fillB c s) := by
  unfold DS.write
  rw [if_neg (by simp [h]), dif_pos (fillL_length c s)]
  rfl
section
variable (z x y : B512)
def liveD1 (z x : B512) : DS := ⟨[⟨z, z⟩, ⟨x, z⟩], [⟨1, x⟩], [], 1, false⟩
def liveD2 (z x : B512) : DS := ⟨[⟨z, z⟩, ⟨x, x⟩], [], [], 2, false⟩
def liveD3 (z x y : B512) : DS := ⟨[⟨z, z⟩, ⟨y, x⟩], [⟨1, y⟩], [], 3, false⟩
def liveD4 (z x y : B512) : DS := ⟨[⟨z, z⟩, ⟨y.over x 2, y.over x 2⟩], [], [], 3, true⟩
theorem live_1 : (⟨[⟨z, z⟩, ⟨z, z⟩], [], [], 0, false⟩ : DS).put 1 x = (liveD1 z x, 0) := by rfl
theorem live_2 : (liveD1 z x).flush = (liveD2 z x, 0) := by rfl
theorem live_3 : (liveD2 z x).put 1 y = (liveD3 z x y, 0) := by rfl
theorem live_4 : (liveD3 z x y).crash ⟨0, 0, 2⟩ = liveD4 z x y := by rfl
end
theorem live_5 : ((fillB 121 []).over (fillB 120 []) 2).l = fillL 120 [121, 121] := by
  show (fillL 121 []).take 2 ++ (fillL 120 []).drop 2 = _
  rfl
set_option maxRecDepth 20000 in
set_option maxHeartbeats 1000000 in
theorem lives_any (w : World) : Calls Try.prog 13 #[] w fun e w' => e = .returned (.bool true) ∧ Below w.heap.size w w' := by
  go_enter Try.func13, Try.ntmps13
  go_wp2_with fail
  refine (DL.new (w0 := w) 2 (by decide) (by decide) (Below.refl _ _)).mono ?_
  rintro e w1 ⟨k, rfl, hL1, -⟩
  have HL1 := Lib.hid hL1
  clear hL1
  go_wp2_with fail
  refine (fill_any w1 120 []).mono ?_
  rintro e w2 ⟨A, c, rfl, ho, hb⟩
  have HL2 := Lib.hid (And.intro (HL1.out.below hb) ho.row)
  clear ho hb HL1
  go_wp2_with fail
  refine (HL2.out.1.writeB (by decide) 1 A c _ (fillL_length _ _) HL2.out.2).mono ?_
  rw [write_fill _ _ _ _ (by decide), show DS.new 2 = ⟨[⟨B512.zero, B512.zero⟩, ⟨B512.zero, B512.zero⟩], [], [], 0, false⟩ from rfl, show (1 : Int).toNat = 1 from rfl, live_1]
  rintro e w3 ⟨rfl, hL3, -⟩
  have HL3 := Lib.hid hL3
  clear hL3 HL2
  go_wp2_with fail
  refine (HL3.out.flush (by decide)).mono ?_
  rw [live_2]
  rintro e w4 ⟨rfl, hL4, -⟩
  have HL4 := Lib.hid hL4
  clear hL4 HL3
  go_wp2_with fail
  refine (fill_any w4 121 []).mono ?_
  rintro e w5 ⟨A, c, rfl, ho, hb⟩
  have HL5 := Lib.hid (And.intro (HL4.out.below hb) ho.row)
  clear ho hb HL4
  go_wp2_with fail
  refine (HL5.out.1.writeB (by decide) 1 A c _ (fillL_length _ _) HL5.out.2).mono ?_
  rw [write_fill _ _ _ _ (by decide), show (1 : Int).toNat = 1 from rfl, live_3]
  rintro e w6 ⟨rfl, hL6, -⟩
  have HL6 := Lib.hid hL6
  clear hL6 HL5
  go_wp2_with fail
  refine (HL6.out.crash ⟨0, 0, 2⟩ (by decide)).mono ?_
  rw [live_4]
  rintro e w7 ⟨rfl, hL7, -⟩
  have HL7 := Lib.hid hL7
  clear hL7 HL6
  go_wp2_with fail
  refine (down_any w7 _ k _ HL7.out.at_).mono ?_
  rintro e w8 ⟨rfl, rfl⟩
  go_wp2_with fail
  refine (HL7.out.up).mono ?_
  rintro e w8 ⟨rfl, hL8, -⟩
  have HL8 := Lib.hid hL8
  clear hL8 HL7
  go_wp2_with fail
  refine (read_ok w8 _ k _ HL8.out.at_ 1 (by decide) rfl).mono ?_
  rintro e w9 ⟨A, c, rfl, ho, hb⟩
  have ho' : BOwn w9 w8.heap.size A c (fillL 120 [121, 121]) := by rw [← live_5]; exact ho
  have HF := Lib.hid (And.intro ho'.row (HL8.out.bel.trans (hb.mono HL8.out.bel.size)))
  clear ho ho' hb HL8
  go_wp2_with fail
  have hl512 := fillL_length 120 [121, 121]
  apply wp_region_many (S := fun _ _ w' => Below w9.heap.size w9 w') (R := fun j x w' => match j with
    | 0 => x = .int .i64 0
    | 1 => x = .bool true
    | 2 => x = .bool true
    | 3 => x = .slice A 512 c
    | 4 => x = txt (fillL 120 [121, 121])
    | 5 => ∃ A' c', x = .slice A' 512 c' ∧ BRow w' A' (fillL 120 [121, 121])
    | 6 => x = txt (fillL 120 [121, 121])
    | 7 => x = .bool true
    | 8 => x = .bool true
    | 9 => x = .bool true
    | _ => True) (Gr := fun w1 w2 => Below w1.heap.size w1 w2)
  case hG => (intro v; simp only [regFrame, List.zipIdx_cons, List.zipIdx_nil, List.foldl_cons, List.foldl_nil, Act.put, List.setIfInBounds_toArray, List.set_cons_zero, List.set_cons_succ, Nat.reduceAdd]; rfl)
  case hm => kernel_rfl
  case honce => rfl
  case hlow => kernel_rfl
  case hR =>
    intro j x w' w'' hb h
    split at h <;> try exact h
    obtain ⟨A1, c1, h1, h2⟩ := h
    exact ⟨A1, c1, h1, h2.below hb⟩
  case h0 => exact fun v => below_drew w9
  case hstep =>
    refine ⟨?_, ?_, ?_, ?_, ?_, ?_, ?_, ?_, ?_, ?_, trivial⟩ <;> (intro D v w' hS hbef hd; simp only [Deps, Region.binds, ↓reduceIte, and_true] at hd; clear hbef)
    · exact opDoes_move _ rfl rfl ⟨Below.refl _ _, rfl, hS⟩
    · refine opDoes_run rfl (x := .bool true) ?_ ⟨Below.refl _ _, rfl, hS⟩
      have h0 := hd.2
      go_simp
    · exact opDoes_move _ rfl rfl ⟨Below.refl _ _, hd.2, hS⟩
    · exact opDoes_gmove _ (wanted_guard rfl rfl rfl (by rw [hd.2]; rfl)) rfl ⟨Below.refl _ _, rfl, hS⟩
    · obtain ⟨⟨-, h3⟩, -, h2⟩ := hd
      have hcv := run_string_bytes w' c (HF.out.1.below hS)
      rw [hl512] at hcv
      refine opDoes_grun (x := txt (fillL 120 [121, 121])) (wanted_guard rfl rfl rfl (by rw [h2]; rfl)) ?_ ⟨Below.refl _ _, rfl, hS⟩
      clear hS
      go_simp
    · obtain ⟨-, -, h2⟩ := hd
      refine opDoes_gcall _ _ _ #[.int .u8 120, .string ⟨#[121, 121]⟩] (wanted_guard rfl rfl rfl (by rw [h2]; rfl)) rfl (by clear hS; go_simp) (Try.call16 _ _) ?_
      exact (fill_any w' 120 [121, 121]).mono fun e w'' ⟨A1, c1, he, ho, hb⟩ => ⟨_, he, hb, ⟨A1, c1, rfl, ho.row⟩, hS.trans (hb.mono hS.size)⟩
    · obtain ⟨⟨-, A1, c1, h5, hr⟩, -, h2⟩ := hd
      have hcv := run_string_bytes w' c1 hr
      rw [hl512] at hcv
      refine opDoes_grun (x := txt (fillL 120 [121, 121])) (wanted_guard rfl rfl rfl (by rw [h2]; rfl)) ?_ ⟨Below.refl _ _, rfl, hS⟩
      clear hS hr
      go_simp
    · obtain ⟨⟨-, h4⟩, ⟨-, h6⟩, -, h2⟩ := hd
      refine opDoes_grun (x := .bool true) (wanted_guard rfl rfl rfl (by rw [h2]; rfl)) ?_ ⟨Below.refl _ _, rfl, hS⟩
      unfold txt at h4 h6
      clear hS
      go_simp
    · obtain ⟨⟨-, h2⟩, -, h7⟩ := hd
      refine opDoes_run (x := .bool true) rfl ?_ ⟨Below.refl _ _, rfl, hS⟩
      clear hS
      go_simp
    · exact opDoes_assign _ rfl rfl ⟨Below.refl _ _, hd.1.2, hS⟩
  case hend =>
    intro D v w' hS hD h
    simp only [AllOps, Nat.zero_add, Nat.reduceAdd, and_true] at h
    have h9 := h.2.2.2.2.2.2.2.2.2
    have HZ := Lib.hid (HF.out.2.trans (hS.mono HF.out.2.size))
    clear h hS hD
    go_wp2_with fail
    go_ret
    rw [h9]
    exact ⟨rfl, HZ.out⟩
end Go.Proofs.Ythbanhedjfpmaaa
