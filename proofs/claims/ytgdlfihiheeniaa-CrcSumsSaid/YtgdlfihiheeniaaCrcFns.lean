/-
  The contracts of package crc, of its reference, and of what its statements call.
-/
import Derived.Test.YtgdlfihiheeniaaSum
import Derived.Test.YtgdlfihiheeniaaRegion
namespace Go.Proofs.Ytgdlfihiheeniaa
open Go.RowKit

theorem crc_known : Crc.sum [49, 50, 51, 52, 53, 54, 55, 56, 57] = 3421780262 := by decide +kernel

set_option maxHeartbeats 400000 in
theorem lives_any (w : World) : Calls Try.prog 15 #[] w fun e w' => e = .returned (.bool true) ∧ Below w.heap.size w w' := by
  have kc := run_const_bytes
  go_enter Try.func15, Try.ntmps15
  go_wp2_with fail
  refine (sum_any _ _ _ [⟨some ⟨w.heap.size, 0, none⟩, 4, [49, 50, 51, 52]⟩, ⟨some ⟨w.heap.size + 1, 0, none⟩, 5, [53, 54, 55, 56, 57]⟩] ?_ ?_ (by simp)).mono ?_
  · have := Row.new ((w.alloc (.cells #[.int .u8 49, .int .u8 50, .int .u8 51, .int .u8 52] 5 (4, 5))).alloc (.cells #[.int .u8 53, .int .u8 54, .int .u8 55, .int .u8 56, .int .u8 57] 5 (5, 6)))
      [.slice (some ⟨w.heap.size, 0, none⟩) 4 4, .slice (some ⟨w.heap.size + 1, 0, none⟩) 5 5] 25
    simpa [Part.v] using this
  · intro p hp
    simp only [List.mem_cons, List.not_mem_nil, or_false] at hp
    rcases hp with rfl | rfl
    · have := ((Row.newMark w ([49, 50, 51, 52].map bv) 5 (4, 5)).alloc (.cells #[.int .u8 53, .int .u8 54, .int .u8 55, .int .u8 56, .int .u8 57] 5 (5, 6)))
      exact ⟨this.alloc _, by simp⟩
    · have := (Row.newMark (w.alloc (.cells #[.int .u8 49, .int .u8 50, .int .u8 51, .int .u8 52] 5 (4, 5))) ([53, 54, 55, 56, 57].map bv) 5 (5, 6))
      simp only [World.size_alloc] at this
      exact ⟨this.alloc _, by simp⟩
  · rintro e w1 ⟨rfl, rfl⟩
    simp only [List.flatMap_cons, List.flatMap_nil, List.append_nil, List.cons_append, List.nil_append, crc_known]
    go_wp2
    go_ret
    exact ⟨rfl, (((Below.refl _ _).alloc (Nat.le_refl _) _).alloc (by simp) _).alloc (by simp; omega) _⟩

theorem txt_size (l : List UInt8) : (ByteArray.mk l.toArray).size = l.length := by simp [ByteArray.size]
theorem ref_ne {l : List UInt8} {k s : Nat} (hk : k / 8 < (ByteArray.mk l.toArray).size) (hk' : k / 8 < l.length)
    (h : ((s : Int) % 2 != ((({ data := l.toArray } : ByteArray)[k / 8]'hk).toNat : Int) / 2 ^ (k % 8) % 2) = true) : ¬ s % 2 = l[k / 8].toNat / 2 ^ (k % 8) % 2 := by
  have h1 : ((s : Int) % 2 != ((l[k / 8].toNat : Int) / 2 ^ (k % 8)) % 2) = true := h
  rw [bne_iff_ne] at h1
  intro e
  apply h1
  have e2 : (((l[k / 8].toNat / 2 ^ (k % 8) % 2 : Nat)) : Int) = (l[k / 8].toNat : Int) / 2 ^ (k % 8) % 2 := by simp
  rw [← e2, ← e]; simp
theorem ref_eq {l : List UInt8} {k s : Nat} (hk : k / 8 < (ByteArray.mk l.toArray).size) (hk' : k / 8 < l.length)
    (h : ((s : Int) % 2 != ((({ data := l.toArray } : ByteArray)[k / 8]'hk).toNat : Int) / 2 ^ (k % 8) % 2) = false) : s % 2 = l[k / 8].toNat / 2 ^ (k % 8) % 2 := by
  have h1 : ((s : Int) % 2 != ((l[k / 8].toNat : Int) / 2 ^ (k % 8)) % 2) = false := h
  rw [bne_eq_false_iff_eq] at h1
  have e2 : (((l[k / 8].toNat / 2 ^ (k % 8) % 2 : Nat)) : Int) = (l[k / 8].toNat : Int) / 2 ^ (k % 8) % 2 := by simp
  rw [← e2] at h1
  omega

set_option maxHeartbeats 800000 in
theorem refsum_any (w : World) (l : List UInt8) (hl : l.length ≤ 1000000) :
    Calls Try.prog 18 #[txt l] w fun e w' => e = .returned (.int .u32 (Crc.sum l : Nat)) ∧ w = w' := by
  go_enter Try.func18, Try.ntmps18
  unfold txt
  go_wp2_with fail
  go_loop [3, 4] (fun s i => ∃ k : Nat, k ≤ 8 * l.length ∧ i = .int .i64 k ∧ s = .int .u32 (Crc.reg l k : Nat)) (fun _ i => 8 * l.length - (intOf i).toNat)
  case atStart => exact ⟨0, Nat.zero_le _, rfl, by rw [Crc.reg_zero]; rfl⟩
  case round =>
    obtain ⟨k, hk, rfl, rfl⟩ := hrel
    have hs := Crc.reg_lt l k
    by_cases hlt : k < 8 * l.length
    · have hk8 : k / 8 < l.length := by omega
      have HS := Lib.hid (Crc.reg_step l k hk8)
      generalize Crc.reg l k = s at hs HS
      go_wp2
      · rename_i h
        go_round
        case rel =>
          refine ⟨k + 1, by omega, by go_num, ?_⟩
          have h' := ref_ne (by rw [txt_size]; exact hk8) hk8 h
          rw [HS.out, Crc.bit', if_neg h', show (s : Int) / 2 = ((s / 2 : Nat) : Int) from rfl, show (3988292384 : Int) = ((3988292384 : Nat) : Int) from rfl, u32_xor_nat _ _ (by omega) (by omega)]
        case measure => simp [intOf]; omega
      · rename_i h
        go_round
        case rel =>
          refine ⟨k + 1, by omega, by go_num, ?_⟩
          have h' := ref_eq (by rw [txt_size]; exact hk8) hk8 h
          rw [HS.out, Crc.bit', if_pos h']
          rfl
        case measure => simp [intOf]; omega
    · obtain rfl : k = 8 * l.length := by omega
      have HE := Lib.hid (Crc.reg_end l)
      generalize Crc.reg l (8 * l.length) = s at hs HE
      go_wp2
      go_ret
      exact ⟨by rw [← HE.out]; exact congrArg (fun x => Ending.returned (.int .u32 x)) (by omega), rfl⟩

theorem le4_take (s k : Nat) (hk : k < 4) : (Crc.le4 s).take (k + 1) = (Crc.le4 s).take k ++ [UInt8.ofNat (s / 256 ^ k)] := by
  match k, hk with
  | 0, _ => simp [Crc.le4]
  | 1, _ => simp [Crc.le4]
  | 2, _ => simp [Crc.le4]
  | 3, _ => simp [Crc.le4]
theorem byte_of (s : Nat) : bv (UInt8.ofNat s) = .int .u8 ((s : Int) % 256) := by
  simp [bv]

set_option maxHeartbeats 800000 in
theorem seal_any (w : World) (A : Option Addr) (c : Nat) (l : List UInt8) (hr : BRow w A l) (hl : l.length ≤ 1000000) :
    Calls Try.prog 19 #[.slice A l.length c] w (RetB w (Crc.sealed l)) := by
  go_enter Try.func19, Try.ntmps19
  go_wp2_with fail
  refine (sum_any _ _ _ [⟨A, c, l⟩] ?_ ?_ (by simp)).mono ?_
  · exact Row.new _ _ _
  · intro p hp
    simp only [List.mem_singleton] at hp
    subst hp
    exact ⟨hr.alloc _, by simp; omega⟩
  rintro e w1 ⟨rfl, rfl⟩
  simp only [List.flatMap_cons, List.flatMap_nil, List.append_nil]
  have hS := Crc.sum_lt l
  have HF : Hid (Crc.sealed l = l ++ Crc.le4 (Crc.sum l)) := rfl
  generalize Crc.sum l = S at hS HF
  have ho : BOwn ((w.alloc (.cells #[.slice A l.length c] 25)).alloc (.cells #[] 5)) w.heap.size (some ⟨w.heap.size + 1, 0, none⟩) 0 [] := by
    have := BOwn.new (B := w.heap.size) (w.alloc (.cells #[.slice A l.length c] 25)) [] (by simp) (by simp)
    simpa using this
  go_wp2_with (at_builtin; refine wpList_append_bytes rfl (.tmp 8) (.tmp 9) rfl _ rfl ho rfl _ rfl ((hr.alloc _).alloc _) rfl (by simp; omega) (by simp; omega) ?_; intro A1 c1 w1 ho1 hb1 _ _)
  have hB1 : Below w.heap.size w w1 := (((Below.refl _ w).alloc (Nat.le_refl _) _).alloc (by simp) _).trans hb1
  clear hb1 ho hr
  simp only [List.nil_append] at ho1
  go_loopw [3, 4, 11] (fun s v i wr => ∃ (k : Nat) (A1 : Option Addr) (c1 : Nat), k ≤ 4 ∧ i = .int .i64 k ∧ s = .int .u32 (S / 256 ^ k : Nat) ∧ v = .slice A1 (l.length + k) c1 ∧
    BOwn wr w.heap.size A1 c1 (l ++ (Crc.le4 S).take k) ∧ Below w.heap.size w wr) (fun _ _ i _ => 4 - (intOf i).toNat)
  case atStart => exact ⟨0, A1, c1, by omega, rfl, by simp, rfl, by simpa using ho1, hB1⟩
  case round =>
    obtain ⟨k, A2, c2, hk, rfl, rfl, rfl, ho2, hB2⟩ := hrel
    by_cases hlt : k < 4
    · have HT := Lib.hid (le4_take S k hlt)
      have hp : S / 256 ^ k < 4294967296 := Nat.lt_of_le_of_lt (Nat.div_le_self _ _) hS
      have HD : Hid (S / 256 ^ (k + 1) = S / 256 ^ k / 256) := by
        show _ = _
        rw [Nat.pow_succ, Nat.div_div_eq_div_mul]
      generalize S / 256 ^ k = q at hp HT HD
      have hlen : (l ++ (Crc.le4 S).take k).length = l.length + k := by simp [Crc.le4]; omega
      have HL := Lib.hid hlen
      clear hlen
      go_wp2_with (at_builtin; refine wpList_append_bytes rfl (.tmp 13) (.tmp 16) rfl _ rfl (ho2.alloc _) HL.out.symm _ rfl (BRow.one wr (UInt8.ofNat q) _ _ (byte_of q)) rfl (by rw [HL.out]; simp; omega) (by have := hB2.size; simp; omega) ?_; intro A3 c3 w3 ho3 hb3 _ _)
      go_roundw
      case rel =>
        refine ⟨k + 1, A3, c3, by omega, by go_num, by rw [HD.out]; rfl, ?_, ?_, ?_⟩
        · simp [Crc.le4]; omega
        · rw [HT.out, ← List.append_assoc]; exact ho3
        · exact (hB2.alloc (by have := hB2.size; omega) _).trans hb3
      case measure => simp [intOf]; omega
    · obtain rfl : k = 4 := by omega
      go_wp2_with fail
      go_ret
      exact ⟨A2, c2, by rw [HF.out]; simp [Crc.le4], by rw [HF.out]; exact ho2, hB2⟩

set_option maxHeartbeats 800000 in
theorem refseal_any (w : World) (l : List UInt8) (hl : l.length ≤ 1000000) :
    Calls Try.prog 20 #[txt l] w fun e w' => e = .returned (txt (Crc.sealed l)) ∧ Below w.heap.size w w' := by
  go_enter Try.func20, Try.ntmps20
  go_wp2_with fail
  refine (refsum_any _ _ hl).mono ?_
  rintro e w' ⟨rfl, rfl⟩
  have HS : Hid (Crc.sealed l = l ++ Crc.le4 (Crc.sum l)) := rfl
  have hS := Crc.sum_lt l
  generalize Crc.sum l = S at hS HS
  have hrow : BRow (w.alloc (.cells #[.int .u8 ((S : Int) % 256), .int .u8 ((S : Int) / 256 % 256), .int .u8 ((S : Int) / 65536 % 256), .int .u8 ((S : Int) / 16777216)] 5)) (some ⟨w.heap.size, 0, none⟩) (Crc.le4 S) := by
    have := Row.new w ((Crc.le4 S).map bv) 5
    have e : (S : Int) / 16777216 % 256 = (S : Int) / 16777216 := by omega
    simpa [Crc.le4, byte_of, BRow, e] using this
  have hcv := run_string_bytes _ 4 hrow
  have e4 : (Crc.le4 S).length = 4 := rfl
  rw [e4] at hcv
  have hlen : l.length + (Crc.le4 S).length ≤ 9223372036854775807 := by omega
  generalize Crc.le4 S = z at hcv HS hlen
  clear hrow e4
  unfold txt at hcv
  unfold txt
  go_wp2_with fail
  go_ret
  refine ⟨?_, (Below.refl _ _).alloc (Nat.le_refl _) _⟩
  rw [HS.out]
  exact congrArg (fun x => Ending.returned (.string x)) (ByteArray.mk_append_mk l z)

set_option maxHeartbeats 800000 in
theorem open_cut (w : World) (A : Option Addr) (n c : Nat) (hl : n < 4) :
    Calls Try.prog 21 #[.slice A n c] w fun e w' => e = .returned (.tuple #[.slice none 0 0, .int .i64 10]) ∧ w = w' := by
  go_enter Try.func21, Try.ntmps21
  go_wp2_with fail
  go_ret2
  exact ⟨rfl, rfl⟩

set_option maxHeartbeats 800000 in
theorem open_sum (w : World) (A : Option Addr) (c m : Nat) (a b : List UInt8) (ha : a.length = m) (hb : b.length = 4) (hr : BRow w A (a ++ b)) (hm : m ≤ 1000000) (hc : m + 4 ≤ c) (hs : (Crc.sealed a != a ++ b) = true) :
    Calls Try.prog 21 #[.slice A (m + 4) c] w fun e w' => e = .returned (.tuple #[.slice none 0 0, .int .i64 20]) ∧ Below w.heap.size w w' := by
  have Ha := Lib.hid ha
  have Hb := Lib.hid hb
  have Hs := Lib.hid hs
  clear ha hb hs
  go_enter Try.func21, Try.ntmps21
  go_wp2_with fail
  apply wp_region_rel (fun w' => Below w.heap.size w w') (fun a b => Below a.heap.size a b) (fun i x w => match i with
    | 0 => x = .slice A (m + 4) c
    | 1 => x = .int .i64 m
    | 2 => x = .slice A m c
    | 3 => ∃ A1 c1, x = .slice A1 (Crc.sealed a).length c1 ∧ BRow w A1 (Crc.sealed a)
    | 4 => x = txt (Crc.sealed a)
    | 5 => x = .slice A (m + 4) c
    | 6 => x = txt (a ++ b)
    | 7 => x = .bool true
    | _ => True)
  case hG => intro v; simp only [regFrame, List.zipIdx_cons, List.zipIdx_nil, List.foldl_cons, List.foldl_nil, Act.put, List.setIfInBounds_toArray, List.set_cons_zero, List.set_cons_succ, Nat.reduceAdd]; rfl
  case hm => kernel_rfl
  case honce => rfl
  case hlow => kernel_rfl
  case hInv => exact fun _ _ h h' => h.trans (h'.mono h.size)
  case hR =>
    intro i x w1 w2 _ hb h
    split at h <;> first
      | exact h
      | (obtain ⟨A1, c1, e, hr⟩ := h; exact ⟨A1, c1, e, hr.below hb⟩)
  case h0 => exact (Below.refl _ _).drew
  case hstep =>
    refine ⟨?_, ?_, ?_, ?_, ?_, ?_, ?_, ?_, trivial⟩ <;> intro v w1 hI hd _ <;> simp only [Deps, Region.binds, ↓reduceIte] at hd
    · exact opDoes_move _ rfl rfl ⟨Below.refl _ _, rfl⟩
    · exact opDoes_move _ rfl rfl ⟨Below.refl _ _, rfl⟩
    · obtain ⟨h0, h1, _⟩ := hd
      refine opDoes_run (x := .slice A m c) rfl ?_ ⟨Below.refl _ _, rfl⟩
      go_simp
      omega
    · obtain ⟨h2, _⟩ := hd
      refine opDoes_call _ _ _ #[.slice A m c] rfl rfl ?_ (Try.call19 _ _) ?_
      · go_simp
      · have ha : BRow w1 A a := by
          have := (hr.below hI).take m
          rwa [List.take_append_of_le_length (by rw [Ha.out]; exact Nat.le_refl _), List.take_of_length_le (by rw [Ha.out]; exact Nat.le_refl _)] at this
        have := seal_any w1 A c a ha (by rw [Ha.out]; exact hm)
        rw [Ha.out] at this
        exact this.mono fun e w2 ⟨A1, c1, he, ho, hb⟩ => ⟨_, he, hb, A1, c1, rfl, ho.row⟩
    · obtain ⟨⟨A1, c1, h3, hr3⟩, _⟩ := hd
      have hcv := run_string_bytes w1 c1 hr3
      refine opDoes_run (x := txt (Crc.sealed a)) rfl ?_ ⟨Below.refl _ _, rfl⟩
      go_simp
    · exact opDoes_move _ rfl rfl ⟨Below.refl _ _, rfl⟩
    · obtain ⟨h5, _⟩ := hd
      have hcv := run_string_bytes w1 c (hr.below hI)
      rw [List.length_append, Ha.out, Hb.out] at hcv
      refine opDoes_run (x := txt (a ++ b)) rfl ?_ ⟨Below.refl _ _, rfl⟩
      go_simp
    · obtain ⟨h4, h6, _⟩ := hd
      have hs := Hs.out
      refine opDoes_run (x := .bool true) rfl ?_ ⟨Below.refl _ _, rfl⟩
      unfold txt at h4 h6
      go_simp
      simpa using hs
  case hend =>
    intro v w1 hI h
    simp only [AllOps, Nat.zero_add, Nat.reduceAdd, and_true] at h
    have h7 := h.2.2.2.2.2.2.2
    clear h
    rw [h7]
    clear h7
    generalize v 7 = x
    go_wp2_with fail
    go_ret2
    exact ⟨rfl, hI⟩

set_option maxHeartbeats 800000 in
theorem open_ok (w : World) (A : Option Addr) (c m : Nat) (a b : List UInt8) (ha : a.length = m) (hb : b.length = 4) (hr : BRow w A (a ++ b)) (hm : m ≤ 1000000) (hc : m + 4 ≤ c) (hs : (Crc.sealed a != a ++ b) = false) :
    Calls Try.prog 21 #[.slice A (m + 4) c] w fun e w' => ∃ A1 c1, e = .returned (.tuple #[.slice A1 m c1, .int .i64 0]) ∧ BOwn w' w.heap.size A1 c1 a ∧ Below w.heap.size w w' := by
  have Ha := Lib.hid ha
  have Hb := Lib.hid hb
  have Hs := Lib.hid hs
  clear ha hb hs
  go_enter Try.func21, Try.ntmps21
  go_wp2_with fail
  apply wp_region_rel (fun w' => Below w.heap.size w w') (fun a b => Below a.heap.size a b) (fun i x w => match i with
    | 0 => x = .slice A (m + 4) c
    | 1 => x = .int .i64 m
    | 2 => x = .slice A m c
    | 3 => ∃ A1 c1, x = .slice A1 (Crc.sealed a).length c1 ∧ BRow w A1 (Crc.sealed a)
    | 4 => x = txt (Crc.sealed a)
    | 5 => x = .slice A (m + 4) c
    | 6 => x = txt (a ++ b)
    | 7 => x = .bool false
    | _ => True)
  case hG => intro v; simp only [regFrame, List.zipIdx_cons, List.zipIdx_nil, List.foldl_cons, List.foldl_nil, Act.put, List.setIfInBounds_toArray, List.set_cons_zero, List.set_cons_succ, Nat.reduceAdd]; rfl
  case hm => kernel_rfl
  case honce => rfl
  case hlow => kernel_rfl
  case hInv => exact fun _ _ h h' => h.trans (h'.mono h.size)
  case hR =>
    intro i x w1 w2 _ hb h
    split at h <;> first
      | exact h
      | (obtain ⟨A1, c1, e, hr⟩ := h; exact ⟨A1, c1, e, hr.below hb⟩)
  case h0 => exact (Below.refl _ _).drew
  case hstep =>
    refine ⟨?_, ?_, ?_, ?_, ?_, ?_, ?_, ?_, trivial⟩ <;> intro v w1 hI hd _ <;> simp only [Deps, Region.binds, ↓reduceIte] at hd
    · exact opDoes_move _ rfl rfl ⟨Below.refl _ _, rfl⟩
    · exact opDoes_move _ rfl rfl ⟨Below.refl _ _, rfl⟩
    · obtain ⟨h0, h1, _⟩ := hd
      refine opDoes_run (x := .slice A m c) rfl ?_ ⟨Below.refl _ _, rfl⟩
      go_simp
      omega
    · obtain ⟨h2, _⟩ := hd
      refine opDoes_call _ _ _ #[.slice A m c] rfl rfl ?_ (Try.call19 _ _) ?_
      · go_simp
      · have ha : BRow w1 A a := by
          have := (hr.below hI).take m
          rwa [List.take_append_of_le_length (by rw [Ha.out]; exact Nat.le_refl _), List.take_of_length_le (by rw [Ha.out]; exact Nat.le_refl _)] at this
        have := seal_any w1 A c a ha (by rw [Ha.out]; exact hm)
        rw [Ha.out] at this
        exact this.mono fun e w2 ⟨A1, c1, he, ho, hb⟩ => ⟨_, he, hb, A1, c1, rfl, ho.row⟩
    · obtain ⟨⟨A1, c1, h3, hr3⟩, _⟩ := hd
      have hcv := run_string_bytes w1 c1 hr3
      refine opDoes_run (x := txt (Crc.sealed a)) rfl ?_ ⟨Below.refl _ _, rfl⟩
      go_simp
    · exact opDoes_move _ rfl rfl ⟨Below.refl _ _, rfl⟩
    · obtain ⟨h5, _⟩ := hd
      have hcv := run_string_bytes w1 c (hr.below hI)
      rw [List.length_append, Ha.out, Hb.out] at hcv
      refine opDoes_run (x := txt (a ++ b)) rfl ?_ ⟨Below.refl _ _, rfl⟩
      go_simp
    · obtain ⟨h4, h6, _⟩ := hd
      have hs := Hs.out
      refine opDoes_run (x := .bool false) rfl ?_ ⟨Below.refl _ _, rfl⟩
      unfold txt at h4 h6
      go_simp
      simpa using hs
  case hend =>
    intro v w1 hI h
    simp only [AllOps, Nat.zero_add, Nat.reduceAdd, and_true] at h
    have h7 := h.2.2.2.2.2.2.2
    clear h
    rw [h7]
    clear h7
    have ha : BRow w1 A a := by
      have := (hr.below hI).take m
      rwa [List.take_append_of_le_length (by rw [Ha.out]; exact Nat.le_refl _), List.take_of_length_le (by rw [Ha.out]; exact Nat.le_refl _)] at this
    have hB := hI.size
    have ho : BOwn (w1.alloc (.cells #[] 5)) w.heap.size (some ⟨w1.heap.size, 0, none⟩) 0 [] := by
      have := BOwn.new (B := w.heap.size) w1 [] (by simp) hB
      simpa using this
    go_wp2_with (at_builtin; refine wpList_append_bytes rfl (.tmp 18) (.tmp 21) rfl _ rfl ho rfl _ rfl (ha.alloc _) Ha.out.symm (by rw [Ha.out]; simp; omega) (by simp; omega) ?_; intro A1 c1 w2 ho1 hb1 _ _)
    go_ret2
    exact ⟨A1, c1, by simp [Ha.out], ho1, (hI.alloc hB _).trans hb1⟩
end Go.Proofs.Ytgdlfihiheeniaa
