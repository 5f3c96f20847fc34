/-
  The walk of CrcOpens.
-/
import Derived.Test.YtgdlfihiheeniaaCrcFns
namespace Go.Proofs.Ytgdlfihiheeniaa
open Go.RowKit

/-- Both ways of Open at four bytes or more, in one. -/
theorem open_any (w : World) (A : Option Addr) (c m : Nat) (a b : List UInt8) (t : Bool) (ha : a.length = m) (hb : b.length = 4) (hr : BRow w A (a ++ b)) (hm : m ≤ 1000000) (hc : m + 4 ≤ c) (ht : (Crc.sealed a != a ++ b) = t) :
    Calls Try.prog 21 #[.slice A (m + 4) c] w fun e w' => ∃ (A6 : Option Addr) (n6 c6 : Nat) (ev : Int), e = .returned (.tuple #[.slice A6 n6 c6, .int .i64 ev]) ∧
      Hid ((t = true → ev = 20 ∧ n6 = 0) ∧ (t = false → ev = 0 ∧ n6 = m ∧ BRow w' A6 a)) ∧ Below w.heap.size w w' := by
  cases t
  · exact (open_ok w A c m a b ha hb hr hm hc ht).mono fun e w' ⟨A1, c1, he, ho, hb⟩ => ⟨A1, m, c1, 0, he, ⟨fun h => by simp at h, fun _ => ⟨rfl, rfl, ho.row⟩⟩, hb⟩
  · exact (open_sum w A c m a b ha hb hr hm hc ht).mono fun e w' ⟨he, hb⟩ => ⟨none, 0, 0, 20, he, ⟨fun _ => ⟨rfl, rfl⟩, fun h => by simp at h⟩, hb⟩

set_option maxHeartbeats 1000000 in
theorem crcOpens_walk (w : World) (A : Option Addr) (c : Nat) (l : List UInt8) (hr : BRow w A l) (_hc : l.length ≤ c) (_hm : c ≤ maxLen) (x : Bool) :
    Calls Try.prog 5 #[.slice A l.length c, .bool x] w fun e w' => e = .returned (.bool true) ∧ Below w.heap.size w w' := by
  by_cases h1 : 1000 < l.length
  · go_enter Try.func5, Try.ntmps5
    go_wp2_with fail
    refine (lives_any w).mono ?_
    rintro e w1 ⟨rfl, hb1⟩
    go_wp2_with fail
    refine (lives_any _).mono ?_
    rintro e w2 ⟨rfl, hb2⟩
    go_wp2_with fail
    go_ret
    exact ⟨rfl, hb1.trans (hb2.mono hb1.size)⟩
  · go_enter Try.func5, Try.ntmps5
    go_wp2_with fail
    refine (lives_any w).mono ?_
    rintro e w1 ⟨rfl, hb1⟩
    have hr1 := hr.below hb1
    have ho : BOwn (w1.alloc (.cells #[] 5)) w.heap.size (some ⟨w1.heap.size, 0, none⟩) 0 [] := by
      have := BOwn.new (B := w.heap.size) w1 [] (by simp) hb1.size
      simpa using this
    have hsz := hb1.size
    go_upto_if 20 with (at_builtin; refine wpList_append_bytes rfl (.tmp 17) (.tmp 18) rfl _ rfl ho rfl _ rfl (hr1.alloc _) rfl (by simp; omega) (by simp; omega) ?_; intro A1 c1 w2 ho2 hb2 _ _)
    have hB2 : Below w.heap.size w w2 := (hb1.alloc hsz _).trans hb2
    go_cut [5] (fun s5 wx => ∃ (A5 : Option Addr) (c5 : Nat) (L : List UInt8), s5 = .slice A5 L.length c5 ∧ BRow wx A5 L ∧ L.length ≤ c5 ∧ L.length ≤ 1004 ∧ Below w.heap.size w wx)
    case first =>
      cases x
      · go_wp2_with fail
        go_meet
        case rel => exact ⟨A1, c1, l, rfl, ho2.row, ho2.cap, by omega, hB2⟩
      · clear ho ho2 hb2 hr1
        go_wp2_with fail
        refine (seal_any w2 _ c l (hr.below hB2) (by omega)).mono ?_
        rintro e w3 ⟨A3, c3, rfl, ho3, hb3⟩
        have hB3 : Below w.heap.size w w3 := hB2.trans (hb3.mono hB2.size)
        have hr3 := ho3.row
        have hc3 := ho3.cap
        clear ho3 hb3
        go_wp2_with fail
        apply wp_region_rel (fun w' => Below w.heap.size w w' ∧ Below w3.heap.size w3 w') (fun a b => Below a.heap.size a b) (fun i x w => match i with
          | 1 => x = txt (Crc.sealed l)
          | 3 => x = txt l
          | 4 => x = txt (Crc.sealed l)
          | 5 => x = .bool false
          | 0 => x = .slice A3 (Crc.sealed l).length c3
          | 2 => x = .slice A l.length c
          | _ => True)
        case hG => intro v; simp only [regFrame, List.zipIdx_cons, List.zipIdx_nil, List.foldl_cons, List.foldl_nil, Act.put, List.setIfInBounds_toArray, List.set_cons_zero, List.set_cons_succ, Nat.reduceAdd]; rfl
        case hm => kernel_rfl
        case honce => rfl
        case hlow => kernel_rfl
        case hInv => exact fun _ _ h h' => ⟨h.1.trans (h'.mono h.1.size), h.2.trans (h'.mono h.2.size)⟩
        case hR =>
          intro i x w1 w2 _ hb h
          split at h <;> exact h
        case h0 => exact ⟨hB3.drew, (Below.refl _ _).drew⟩
        case hstep =>
          refine ⟨?_, ?_, ?_, ?_, ?_, ?_, trivial⟩ <;> intro v w1 hI hd _ <;> simp only [Deps, Region.binds, ↓reduceIte] at hd
          · exact opDoes_move _ rfl rfl ⟨Below.refl _ _, rfl⟩
          · obtain ⟨h0, _⟩ := hd
            have hcv := run_string_bytes w1 c3 (hr3.below hI.2)
            refine opDoes_run (x := txt (Crc.sealed l)) rfl ?_ ⟨Below.refl _ _, rfl⟩
            go_simp
          · exact opDoes_move _ rfl rfl ⟨Below.refl _ _, rfl⟩
          · obtain ⟨h0, _⟩ := hd
            have hcv := run_string_bytes w1 c (hr.below hI.1)
            refine opDoes_run (x := txt l) rfl ?_ ⟨Below.refl _ _, rfl⟩
            go_simp
          · obtain ⟨h3, _⟩ := hd
            refine opDoes_call _ _ _ #[txt l] rfl rfl (by go_simp) (Try.call20 _ _) ?_
            exact (refseal_any w1 l (by omega)).mono fun e w2 ⟨he, hb⟩ => ⟨_, he, hb, rfl⟩
          · obtain ⟨h1, h4, _⟩ := hd
            refine opDoes_run (x := .bool false) rfl ?_ ⟨Below.refl _ _, rfl⟩
            unfold txt at h1 h4
            go_simp
        case hend =>
          intro v w4 hI h
          simp only [AllOps, Nat.zero_add, Nat.reduceAdd, and_true] at h
          rw [h.2.2.2.2.2]
          clear h
          have hr4 := hr3.below hI.2
          have hB4 := hI.1
          clear hI hr3 hB3
          go_wp2_with fail
          go_meet
          case rel => exact ⟨A3, c3, Crc.sealed l, rfl, hr4, hc3, by simp [Crc.sealed, Crc.le4]; omega, hB4⟩
    case rest =>
      obtain ⟨A5, c5, L, rfl, hr5, hc5, hl5, hB5⟩ := hcut
      clear ho ho2 hb2 hr1 hB2 hsz hb1 hr
      have HN : Hid (L.length = L.length) := rfl
      generalize hn : L.length = n at hc5 hl5
      clear HN
      by_cases h4 : n < 4
      · go_wp2_with fail
        refine (open_cut wc A5 n c5 h4).mono ?_
        rintro e w6 ⟨rfl, rfl⟩
        go_wp2_with fail
        go_ret
        exact ⟨rfl, hB5⟩
      · obtain ⟨m, rfl⟩ : ∃ m, n = m + 4 := ⟨n - 4, by omega⟩
        obtain ⟨a, b, rfl, ha, hb⟩ : ∃ a b : List UInt8, L = a ++ b ∧ a.length = m ∧ b.length = 4 := ⟨L.take m, L.drop m, by simp, by simp; omega, by simp; omega⟩
        clear hn h4
        have Ha := Lib.hid ha
        have Hb := Lib.hid hb
        clear ha hb
        have hra : ∀ W, BRow W A5 (a ++ b) → BRow W A5 a := fun W h => by
          have := h.take m
          rwa [List.take_append_of_le_length (by rw [Ha.out]; exact Nat.le_refl _), List.take_of_length_le (by rw [Ha.out]; exact Nat.le_refl _)] at this
        have HRA := Lib.hid hra
        clear hra
        obtain ⟨t, ht⟩ : ∃ t : Bool, (Crc.sealed a != a ++ b) = t := ⟨_, rfl⟩
        have Ht := Lib.hid ht
        clear ht
        go_wp2_with fail
        refine (open_any wc A5 c5 m a b t Ha.out Hb.out hr5 (by omega) hc5 Ht.out).mono ?_
        rintro e w6 ⟨A6, n6, c6, ev, rfl, H6, hb6⟩
        have hB6 := hB5.trans (hb6.mono hB5.size)
        have hr56 := hr5.below hb6
        clear hr5 hB5 hb6
        go_wp2_with fail
        apply wp_region_rel (fun w' => Below w.heap.size w w' ∧ Below w6.heap.size w6 w') (fun a b => Below a.heap.size a b) (fun i x w => match i with
          | 0 => x = .slice A5 (m + 4) c5
          | 1 => x = .int .i64 m
          | 2 => x = .slice A5 m c5
          | 3 => x = txt a
          | 4 => x = txt (Crc.sealed a)
          | 5 => x = .slice A5 (m + 4) c5
          | 6 => x = txt (a ++ b)
          | 7 => x = .bool t
          | _ => True)
        case hG => intro v; simp only [regFrame, List.zipIdx_cons, List.zipIdx_nil, List.foldl_cons, List.foldl_nil, Act.put, List.setIfInBounds_toArray, List.set_cons_zero, List.set_cons_succ, Nat.reduceAdd]; rfl
        case hm => kernel_rfl
        case honce => rfl
        case hlow => kernel_rfl
        case hInv => exact fun _ _ h h' => ⟨h.1.trans (h'.mono h.1.size), h.2.trans (h'.mono h.2.size)⟩
        case hR =>
          intro i x w1 w2 _ hb h
          split at h <;> exact h
        case h0 => exact ⟨hB6.drew, (Below.refl _ _).drew⟩
        case hstep =>
          refine ⟨?_, ?_, ?_, ?_, ?_, ?_, ?_, ?_, trivial⟩ <;> intro v w1 hI hd _ <;> simp only [Deps, Region.binds, ↓reduceIte] at hd
          · exact opDoes_move _ rfl rfl ⟨Below.refl _ _, rfl⟩
          · exact opDoes_move _ rfl rfl ⟨Below.refl _ _, rfl⟩
          · obtain ⟨h0, h1, _⟩ := hd
            refine opDoes_run (x := .slice A5 m c5) rfl ?_ ⟨Below.refl _ _, rfl⟩
            go_simp
            omega
          · obtain ⟨h2, _⟩ := hd
            have hcv := run_string_bytes w1 c5 (HRA.out _ (hr56.below hI.2))
            rw [Ha.out] at hcv
            refine opDoes_run (x := txt a) rfl ?_ ⟨Below.refl _ _, rfl⟩
            go_simp
          · obtain ⟨h3, _⟩ := hd
            refine opDoes_call _ _ _ #[txt a] rfl rfl (by go_simp) (Try.call20 _ _) ?_
            exact (refseal_any w1 a (by rw [Ha.out]; omega)).mono fun e w2 ⟨he, hb⟩ => ⟨_, he, hb, rfl⟩
          · exact opDoes_move _ rfl rfl ⟨Below.refl _ _, rfl⟩
          · obtain ⟨h5, _⟩ := hd
            have hcv := run_string_bytes w1 c5 (hr56.below hI.2)
            rw [List.length_append, Ha.out, Hb.out] at hcv
            refine opDoes_run (x := txt (a ++ b)) rfl ?_ ⟨Below.refl _ _, rfl⟩
            go_simp
          · obtain ⟨h4, h6, _⟩ := hd
            refine opDoes_run (x := .bool t) rfl ?_ ⟨Below.refl _ _, rfl⟩
            have ht := Ht.out
            unfold txt at h4 h6
            go_simp
            rw [← ht, bne, Bool.not_not]
        case hend =>
          intro v w7 hI h
          simp only [AllOps, Nat.zero_add, Nat.reduceAdd, and_true] at h
          rw [h.2.2.2.2.2.2.2]
          clear h
          have hr7 := hr56.below hI.2
          have hB7 := hI.1
          have hb67 := hI.2
          clear hI hr56 hB6
          cases t
          · obtain ⟨rfl, rfl, hr6⟩ := H6.out.2 rfl
            clear H6
            have hr67 := hr6.below hb67
            clear hr6 hb67
            go_wp2_with fail
            apply wp_region_rel (fun w' => Below w.heap.size w w' ∧ Below w7.heap.size w7 w') (fun a b => Below a.heap.size a b) (fun i x w => match i with
              | 0 => x = .int .i64 0
              | 1 => x = .bool true
              | 2 => x = .bool true
              | 3 => x = .slice A6 n6 c6
              | 4 => x = txt a
              | 5 => x = .slice A5 (n6 + 4) c5
              | 6 => x = .int .i64 n6
              | 7 => x = .slice A5 n6 c5
              | 8 => x = txt a
              | 9 => x = .bool true
              | 10 => x = .bool true
              | 11 => x = .bool true
              | _ => True)
            case hG => intro v; simp only [regFrame, List.zipIdx_cons, List.zipIdx_nil, List.foldl_cons, List.foldl_nil, Act.put, List.setIfInBounds_toArray, List.set_cons_zero, List.set_cons_succ, Nat.reduceAdd]; rfl
            case hm => kernel_rfl
            case honce => rfl
            case hlow => kernel_rfl
            case hInv => exact fun _ _ h h' => ⟨h.1.trans (h'.mono h.1.size), h.2.trans (h'.mono h.2.size)⟩
            case hR =>
              intro i x w1 w2 _ hb h
              split at h <;> exact h
            case h0 => exact ⟨hB7.drew, (Below.refl _ _).drew⟩
            case hstep =>
              refine ⟨?_, ?_, ?_, ?_, ?_, ?_, ?_, ?_, ?_, ?_, ?_, ?_, trivial⟩ <;> intro v w1 hI hd _ <;> simp only [Deps, Region.binds, ↓reduceIte] at hd
              · exact opDoes_move _ rfl rfl ⟨Below.refl _ _, rfl⟩
              · refine opDoes_run (x := .bool true) rfl ?_ ⟨Below.refl _ _, rfl⟩
                go_simp
              · refine opDoes_move _ rfl rfl ⟨Below.refl _ _, ?_⟩
                exact hd.1
              · exact opDoes_gmove _ (wanted_guard rfl rfl rfl (by rw [hd.1]; rfl)) rfl ⟨Below.refl _ _, rfl⟩
              · have hcv := run_string_bytes w1 c6 (hr67.below hI.2)
                rw [Ha.out] at hcv
                obtain ⟨h3, h2, _⟩ := hd
                refine opDoes_grun (x := txt a) (wanted_guard rfl rfl rfl (by rw [h2]; rfl)) ?_ ⟨Below.refl _ _, rfl⟩
                go_simp
              · exact opDoes_gmove _ (wanted_guard rfl rfl rfl (by rw [hd.1]; rfl)) rfl ⟨Below.refl _ _, rfl⟩
              · exact opDoes_gmove _ (wanted_guard rfl rfl rfl (by rw [hd.1]; rfl)) rfl ⟨Below.refl _ _, rfl⟩
              · obtain ⟨h5, h6, h2, _⟩ := hd
                refine opDoes_grun (x := .slice A5 n6 c5) (wanted_guard rfl rfl rfl (by rw [h2]; rfl)) ?_ ⟨Below.refl _ _, rfl⟩
                go_simp
                omega
              · obtain ⟨h7, h2, _⟩ := hd
                have hcv := run_string_bytes w1 c5 (HRA.out _ (hr7.below hI.2))
                rw [Ha.out] at hcv
                refine opDoes_grun (x := txt a) (wanted_guard rfl rfl rfl (by rw [h2]; rfl)) ?_ ⟨Below.refl _ _, rfl⟩
                go_simp
              · obtain ⟨h4, h8, h2, _⟩ := hd
                refine opDoes_grun (x := .bool true) (wanted_guard rfl rfl rfl (by rw [h2]; rfl)) ?_ ⟨Below.refl _ _, rfl⟩
                unfold txt at h4 h8
                go_simp
              · obtain ⟨h2, h9, _⟩ := hd
                refine opDoes_run (x := .bool true) rfl ?_ ⟨Below.refl _ _, rfl⟩
                go_simp
              · exact opDoes_assign _ rfl rfl ⟨Below.refl _ _, hd.1⟩
            case hend =>
              intro v w8 hI h
              simp only [AllOps, Nat.zero_add, Nat.reduceAdd, and_true] at h
              rw [h.2.2.2.2.2.2.2.2.2.2.2]
              clear h
              go_wp2_with fail
              go_ret
              exact ⟨rfl, hI.1⟩
          · obtain ⟨rfl, rfl⟩ := H6.out.1 rfl
            clear H6
            go_wp2_with fail
            go_ret
            exact ⟨rfl, hB7⟩
end Go.Proofs.Ytgdlfihiheeniaa
