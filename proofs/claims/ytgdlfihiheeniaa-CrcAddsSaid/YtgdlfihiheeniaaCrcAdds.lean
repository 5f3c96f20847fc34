/-
  The walk of CrcAdds.
-/
import Derived.Test.YtgdlfihiheeniaaCrcFns
namespace Go.Proofs.Ytgdlfihiheeniaa
open Go.RowKit

/-- The first n bytes of three texts, added without carry. -/
def xor3 (a b c : List UInt8) (n : Nat) : List UInt8 := List.zipWith (· ^^^ ·) (List.zipWith (· ^^^ ·) (a.take n) (b.take n)) (c.take n)
theorem xor3_length (a b c : List UInt8) (n : Nat) (ha : n ≤ a.length) (hb : n ≤ b.length) (hc : n ≤ c.length) : (xor3 a b c n).length = n := by
  simp [xor3]; omega
theorem xor3_step (a b c : List UInt8) (n i : Nat) (hi : i < n) (ha : n ≤ a.length) (hb : n ≤ b.length) (hc : n ≤ c.length) :
    (xor3 a b c n).take (i + 1) ++ List.replicate (n - (i + 1)) 0 = ((xor3 a b c n).take i ++ List.replicate (n - i) 0).set i (a[i] ^^^ b[i] ^^^ c[i]) := by
  have hl := xor3_length a b c n ha hb hc
  have hx : (xor3 a b c n)[i]'(by omega) = a[i] ^^^ b[i] ^^^ c[i] := by simp [xor3]
  rw [List.take_succ_eq_append_getElem (by omega), hx, List.set_append_right _ _ (by simp; omega)]
  have h1 : i - ((xor3 a b c n).take i).length = 0 := by simp; omega
  have h2 : n - i = (n - (i + 1)) + 1 := by omega
  rw [h1, h2, List.replicate_succ, List.set_cons_zero, List.append_assoc, List.singleton_append]

/-- The sum of one part. -/
theorem sum_one (w : World) (A : Option Addr) (c : Nat) (A' : Option Addr) (c' n : Nat) (l : List UInt8) (hl : l.length = n) (hn : n ≤ 1000000) (hrow : Row w A [.slice A' n c']) (hr : BRow w A' l) :
    Calls Try.prog 17 #[.slice A 1 c] w fun e w' => e = .returned (.int .u32 (Crc.sum l : Nat)) ∧ w = w' := by
  subst hl
  have := sum_any w A c [⟨A', c', l⟩] hrow (by
    intro p hp
    simp only [List.mem_singleton] at hp
    subst hp
    exact ⟨hr, by simp; omega⟩) (by simp)
  simpa using this

set_option maxHeartbeats 1000000 in
theorem crcAdds_walk (w : World) (A : Option Addr) (c : Nat) (la : List UInt8) (ha : BRow w A la) (hca : la.length ≤ c) (_hma : c ≤ maxLen)
    (B : Option Addr) (d : Nat) (lb : List UInt8) (hb : BRow w B lb) (hcb : lb.length ≤ d) (_hmb : d ≤ maxLen)
    (C : Option Addr) (f : Nat) (lc : List UInt8) (hc : BRow w C lc) (hcc : lc.length ≤ f) (_hmc : f ≤ maxLen) :
    Calls Try.prog 4 #[.slice A la.length c, .slice B lb.length d, .slice C lc.length f] w fun e w' => e = .returned (.bool true) ∧ Below w.heap.size w w' := by
  unfold maxLen at *
  obtain ⟨n, hmin, hna, hnb, hnc, hn5⟩ : ∃ n : Nat, (∀ W, (Builtin.min_ #[3, 3, 3, 3] 3 #[.int .i64 (la.length : Int), .int .i64 (lb.length : Int), .int .i64 (lc.length : Int), .int .i64 500]).run Try.prog W = .ok (.int .i64 (n : Int)) W) ∧
      n ≤ la.length ∧ n ≤ lb.length ∧ n ≤ lc.length ∧ n ≤ 500 := by
    have h : ∀ W, (Builtin.min_ #[3, 3, 3, 3] 3 #[.int .i64 (la.length : Int), .int .i64 (lb.length : Int), .int .i64 (lc.length : Int), .int .i64 500]).run Try.prog W = .ok (.int .i64 ((min (min (min la.length lb.length) lc.length) 500 : Nat) : Int)) W := fun W => by
      simp [Builtin.min_, Builtin.min2]
      repeat' split
      all_goals omega
    exact ⟨_, h, by omega, by omega, by omega, by omega⟩
  go_enter Try.func4, Try.ntmps4
  go_wp2_with fail
  refine (lives_any w).mono ?_
  rintro e w1 ⟨rfl, hb1⟩
  have hs1 := hb1.size
  go_wp2_with (at_make; refine wpList_make_zeros (B := w.heap.size) rfl _ _ rfl .i64 .i64 _ _ n rfl rfl rfl rfl (by omega) hs1 ?_; intro w2 ho2 hb2)
  have hB2 := hb1.trans (hb2.mono hs1)
  have hg := hs1
  generalize w1.heap.size = g at ho2 hg
  go_loopw [23] (fun iv wr => ∃ i : Nat, i ≤ n ∧ iv = .int .i64 i ∧ BOwn wr w.heap.size (some ⟨g, 0, none⟩) n ((xor3 la lb lc n).take i ++ List.replicate (n - i) 0) ∧ Below w.heap.size w wr) (fun iv _ => n - (intOf iv).toNat)
  case atStart => exact ⟨0, Nat.zero_le _, rfl, by simpa using ho2, hB2⟩
  case round =>
    obtain ⟨i, hi, rfl, hown, hB⟩ := hrel
    clear ho2 hB2 hb2 hb1
    by_cases hlt : i < n
    · have hxl := xor3_length la lb lc n hna hnb hnc
      have hil : i < ((xor3 la lb lc n).take i ++ List.replicate (n - i) 0).length := by simp; omega
      obtain ⟨b1, o1, rfl, _, hc1⟩ := (ha.below hB).at_ (k := i) (by omega)
      obtain ⟨b2, o2, rfl, _, hc2⟩ := (hb.below hB).at_ (k := i) (by omega)
      obtain ⟨b3, o3, rfl, _, hc3⟩ := (hc.below hB).at_ (k := i) (by omega)
      obtain ⟨u, hc4⟩ : ∃ u, wr.cell? ⟨g, i, none⟩ = some u := ⟨_, hown.cell hil⟩
      have hfree := hown.free i
      have hx1 := u8_xor_nat la[i].toNat lb[i].toNat la[i].toNat_lt lb[i].toNat_lt
      have hx2 := u8_xor_nat (la[i].toNat ^^^ lb[i].toNat) lc[i].toNat (Nat.xor_lt_two_pow (n := 8) la[i].toNat_lt lb[i].toNat_lt) lc[i].toNat_lt
      have HX := Lib.hid (xor3_step la lb lc n i hlt hna hnb hnc)
      have HV : Hid (bv (la[i] ^^^ lb[i] ^^^ lc[i]) = .int .u8 ((la[i].toNat ^^^ lb[i].toNat ^^^ lc[i].toNat : Nat) : Int)) := by
        show _ = _
        unfold bv
        rw [UInt8.toNat_xor, UInt8.toNat_xor]

      go_wp2_with fail
      go_region
      go_wp2_with fail
      go_roundw
      case rel =>
        refine ⟨i + 1, by omega, by go_num, ?_, (hB.setCell (p := ⟨g, i, none⟩) hg _).drew⟩
        rw [HX.out]
        exact (hown.store i _ _ HV.out).drew
      case measure => simp [intOf]; omega
    · obtain rfl : i = n := by omega
      have hxl := xor3_length la lb lc i hna hnb hnc
      have ho : BOwn wr w.heap.size (some ⟨g, 0, none⟩) i (xor3 la lb lc i) := by
        have h := hown
        rw [Nat.sub_self, List.replicate_zero, List.append_nil, List.take_of_length_le (by omega)] at h
        exact h
      have hxr := ho.row
      have har := (ha.below hB).take i
      have hbr := (hb.below hB).take i
      have hcr := (hc.below hB).take i
      have HLEN : Hid ((la.take i).length = i ∧ (lb.take i).length = i ∧ (lc.take i).length = i ∧ (xor3 la lb lc i).length = i) := ⟨by simp; omega, by simp; omega, by simp; omega, hxl⟩
      have HSUM : Hid (Crc.sum (la.take i) ^^^ Crc.sum (lb.take i) ^^^ Crc.sum (lc.take i) = Crc.sum (xor3 la lb lc i)) := by
        show _ = _
        rw [Crc.sum_adds _ _ _ (by rw [HLEN.out.1, HLEN.out.2.1]) (by rw [HLEN.out.1, HLEN.out.2.2.1])]
        rfl
      have hsa := Crc.sum_lt (la.take i)
      have hsb := Crc.sum_lt (lb.take i)
      have hsc := Crc.sum_lt (lc.take i)
      clear hown hxl ho
      obtain ⟨n, rfl⟩ : ∃ n, n = i := ⟨_, rfl⟩
      go_wp2_with fail
      apply wp_region_rel (fun w' => Below w.heap.size w w' ∧ Below wr.heap.size wr w') (fun a b => Below a.heap.size a b) (fun i x w => match i with
        | 0 => x = .slice A la.length c
        | 1 => x = .int .i64 n
        | 2 => x = .slice A n c
        | 3 => ∃ g', x = .slice (some ⟨g', 0, none⟩) 1 1 ∧ Row w (some ⟨g', 0, none⟩) [.slice A n c]
        | 4 => x = .int .u32 (Crc.sum (la.take n) : Nat)
        | 5 => x = .slice B lb.length d
        | 6 => x = .int .i64 n
        | 7 => x = .slice B n d
        | 8 => ∃ g', x = .slice (some ⟨g', 0, none⟩) 1 1 ∧ Row w (some ⟨g', 0, none⟩) [.slice B n d]
        | 9 => x = .int .u32 (Crc.sum (lb.take n) : Nat)
        | 10 => x = .int .u32 (Crc.sum (la.take n) ^^^ Crc.sum (lb.take n) : Nat)
        | 11 => x = .slice C lc.length f
        | 12 => x = .int .i64 n
        | 13 => x = .slice C n f
        | 14 => ∃ g', x = .slice (some ⟨g', 0, none⟩) 1 1 ∧ Row w (some ⟨g', 0, none⟩) [.slice C n f]
        | 15 => x = .int .u32 (Crc.sum (lc.take n) : Nat)
        | 16 => x = .int .u32 (Crc.sum (la.take n) ^^^ Crc.sum (lb.take n) ^^^ Crc.sum (lc.take n) : Nat)
        | 17 => x = .slice (some ⟨g, 0, none⟩) n n
        | 18 => ∃ g', x = .slice (some ⟨g', 0, none⟩) 1 1 ∧ Row w (some ⟨g', 0, none⟩) [.slice (some ⟨g, 0, none⟩) n n]
        | 19 => x = .int .u32 (Crc.sum (xor3 la lb lc n) : Nat)
        | 20 => x = .bool true
        | 21 => x = .bool true
        | _ => True)
      case hG => intro v; simp only [regFrame, List.zipIdx_cons, List.zipIdx_nil, List.foldl_cons, List.foldl_nil, Act.put, List.setIfInBounds_toArray, List.set_cons_zero, List.set_cons_succ, Nat.reduceAdd]; rfl
      case hm => kernel_rfl
      case honce => rfl
      case hlow => kernel_rfl
      case hInv => exact fun _ _ h h' => ⟨h.1.trans (h'.mono h.1.size), h.2.trans (h'.mono h.2.size)⟩
      case hR =>
        intro i x w1 w2 _ hb h
        split at h <;> first
          | exact h
          | (obtain ⟨g', e, hr⟩ := h; exact ⟨g', e, hr.below hb⟩)
      case h0 => exact ⟨hB.drew, (Below.refl _ _).drew⟩
      case hstep =>
        refine ⟨?_, ?_, ?_, ?_, ?_, ?_, ?_, ?_, ?_, ?_, ?_, ?_, ?_, ?_, ?_, ?_, ?_, ?_, ?_, ?_, ?_, ?_, trivial⟩ <;> intro v w' hI hd _ <;> simp only [Deps, Region.binds, ↓reduceIte] at hd
        · exact opDoes_move _ rfl rfl ⟨Below.refl _ _, rfl⟩
        · exact opDoes_move _ rfl rfl ⟨Below.refl _ _, rfl⟩
        · obtain ⟨h0, h1, _⟩ := hd
          refine opDoes_run (x := .slice A n c) rfl ?_ ⟨Below.refl _ _, rfl⟩
          go_simp
          omega
        · obtain ⟨h2, _⟩ := hd
          refine opDoes_run (x := .slice (some ⟨w'.heap.size, 0, none⟩) 1 1) (w' := w'.alloc (.cells #[.slice A n c] 25)) rfl (by go_simp) ⟨(Below.refl _ _).alloc (Nat.le_refl _) _, _, rfl, Row.new w' [.slice A n c] _⟩
        · obtain ⟨⟨g', h3, hrow⟩, _⟩ := hd
          refine opDoes_call _ _ _ #[.slice (some ⟨g', 0, none⟩) 1 1] rfl rfl (by go_simp) (Try.call17 _ _) ?_
          have hsum := sum_one w' (some ⟨g', 0, none⟩) 1 A c n (la.take n) (HLEN.out.1) (by omega) hrow (har.below hI.2)
          exact hsum.mono fun e w2 ⟨he, hw⟩ => ⟨_, he, by rw [← hw]; exact Below.refl _ _, rfl⟩
        · exact opDoes_move _ rfl rfl ⟨Below.refl _ _, rfl⟩
        · exact opDoes_move _ rfl rfl ⟨Below.refl _ _, rfl⟩
        · obtain ⟨h5, h6, _⟩ := hd
          refine opDoes_run (x := .slice B n d) rfl ?_ ⟨Below.refl _ _, rfl⟩
          go_simp
          omega
        · obtain ⟨h7, _⟩ := hd
          refine opDoes_run (x := .slice (some ⟨w'.heap.size, 0, none⟩) 1 1) (w' := w'.alloc (.cells #[.slice B n d] 25)) rfl (by go_simp) ⟨(Below.refl _ _).alloc (Nat.le_refl _) _, _, rfl, Row.new w' [.slice B n d] _⟩
        · obtain ⟨⟨g', h8, hrow⟩, _⟩ := hd
          refine opDoes_call _ _ _ #[.slice (some ⟨g', 0, none⟩) 1 1] rfl rfl (by go_simp) (Try.call17 _ _) ?_
          have hsum := sum_one w' (some ⟨g', 0, none⟩) 1 B d n (lb.take n) (HLEN.out.2.1) (by omega) hrow (hbr.below hI.2)
          exact hsum.mono fun e w2 ⟨he, hw⟩ => ⟨_, he, by rw [← hw]; exact Below.refl _ _, rfl⟩
        · obtain ⟨h4, h9, _⟩ := hd
          have hx := u32_xor_nat _ _ hsa hsb
          refine opDoes_run (x := .int .u32 (Crc.sum (la.take n) ^^^ Crc.sum (lb.take n) : Nat)) rfl ?_ ⟨Below.refl _ _, rfl⟩
          go_simp
        · exact opDoes_move _ rfl rfl ⟨Below.refl _ _, rfl⟩
        · exact opDoes_move _ rfl rfl ⟨Below.refl _ _, rfl⟩
        · obtain ⟨h11, h12, _⟩ := hd
          refine opDoes_run (x := .slice C n f) rfl ?_ ⟨Below.refl _ _, rfl⟩
          go_simp
          omega
        · obtain ⟨h13, _⟩ := hd
          refine opDoes_run (x := .slice (some ⟨w'.heap.size, 0, none⟩) 1 1) (w' := w'.alloc (.cells #[.slice C n f] 25)) rfl (by go_simp) ⟨(Below.refl _ _).alloc (Nat.le_refl _) _, _, rfl, Row.new w' [.slice C n f] _⟩
        · obtain ⟨⟨g', h14, hrow⟩, _⟩ := hd
          refine opDoes_call _ _ _ #[.slice (some ⟨g', 0, none⟩) 1 1] rfl rfl (by go_simp) (Try.call17 _ _) ?_
          have hsum := sum_one w' (some ⟨g', 0, none⟩) 1 C f n (lc.take n) (HLEN.out.2.2.1) (by omega) hrow (hcr.below hI.2)
          exact hsum.mono fun e w2 ⟨he, hw⟩ => ⟨_, he, by rw [← hw]; exact Below.refl _ _, rfl⟩
        · obtain ⟨h10, h15, _⟩ := hd
          have hx := u32_xor_nat _ _ (Crc.xor_lt hsa hsb) hsc
          refine opDoes_run (x := .int .u32 (Crc.sum (la.take n) ^^^ Crc.sum (lb.take n) ^^^ Crc.sum (lc.take n) : Nat)) rfl ?_ ⟨Below.refl _ _, rfl⟩
          go_simp
        · exact opDoes_move _ rfl rfl ⟨Below.refl _ _, rfl⟩
        · obtain ⟨h17, _⟩ := hd
          refine opDoes_run (x := .slice (some ⟨w'.heap.size, 0, none⟩) 1 1) (w' := w'.alloc (.cells #[.slice (some ⟨g, 0, none⟩) n n] 25)) rfl (by go_simp) ⟨(Below.refl _ _).alloc (Nat.le_refl _) _, _, rfl, Row.new w' [.slice (some ⟨g, 0, none⟩) n n] _⟩
        · obtain ⟨⟨g', h18, hrow⟩, _⟩ := hd
          refine opDoes_call _ _ _ #[.slice (some ⟨g', 0, none⟩) 1 1] rfl rfl (by go_simp) (Try.call17 _ _) ?_
          have hsum := sum_one w' (some ⟨g', 0, none⟩) 1 (some ⟨g, 0, none⟩) n n (xor3 la lb lc n) (HLEN.out.2.2.2) (by omega) hrow (hxr.below hI.2)
          exact hsum.mono fun e w2 ⟨he, hw⟩ => ⟨_, he, by rw [← hw]; exact Below.refl _ _, rfl⟩
        · obtain ⟨h16, h19, _⟩ := hd
          rw [HSUM.out] at h16
          refine opDoes_run (x := .bool true) rfl ?_ ⟨Below.refl _ _, rfl⟩
          go_simp
        · exact opDoes_assign _ rfl rfl ⟨Below.refl _ _, hd.1⟩
      case hend =>
        intro v w8 hI h
        simp only [AllOps, Nat.zero_add, Nat.reduceAdd, and_true] at h
        rw [h.2.2.2.2.2.2.2.2.2.2.2.2.2.2.2.2.2.2.2.2.2]
        clear h
        go_wp2_with fail
        go_ret
        exact ⟨rfl, hI.1⟩
end Go.Proofs.Ytgdlfihiheeniaa
