/-
  The walk of WirePrefix.
-/
import Derived.Test.YtgdlfihiheeniaaWireLives
import Derived.Test.YtgdlfihiheeniaaRegionSt
namespace Go.Proofs.Ytgdlfihiheeniaa
open Go.RowKit

theorem num_apart {a b : Nat} (ha : a < two64) (hb : b < two64) (h : a ≠ b) : (Wire.num a).take (min (Wire.num a).length (Wire.num b).length) ≠ (Wire.num b).take (min (Wire.num a).length (Wire.num b).length) := by
  intro e
  rcases Nat.le_total (Wire.num a).length (Wire.num b).length with hl | hl
  · rw [Nat.min_eq_left hl, List.take_length] at e
    refine h (Wire.num_inj ha hb ((Wire.num b).drop (Wire.num a).length) [] ?_)
    rw [List.append_nil]
    calc Wire.num a ++ (Wire.num b).drop (Wire.num a).length = (Wire.num b).take (Wire.num a).length ++ (Wire.num b).drop (Wire.num a).length := by rw [← e]
      _ = _ := List.take_append_drop _ _
  · rw [Nat.min_eq_right hl, List.take_length] at e
    refine h (Wire.num_inj ha hb [] ((Wire.num a).drop (Wire.num b).length) ?_)
    rw [List.append_nil]
    calc Wire.num a = (Wire.num a).take (Wire.num b).length ++ (Wire.num a).drop (Wire.num b).length := (List.take_append_drop _ _).symm
      _ = _ := by rw [e]
theorem below_drewN {B : Nat} {a w : World} (h : Below B a w) (n : Nat) : Below B a (w.drewN n) := ⟨h.os, h.tape, h.output, h.size, h.block⟩
theorem cut_txt (l : List UInt8) (n : Nat) : (ByteArray.mk l.toArray).extract 0 n = ByteArray.mk (l.take n).toArray := by
  apply ByteArray.ext
  simp

set_option maxRecDepth 20000 in
set_option maxHeartbeats 1000000 in
theorem wirePrefix_walk (w : World) (n1 : Int) (wf1 : (Lit.int .u64 n1).wf = true) (n2 : Int) (wf2 : (Lit.int .u64 n2).wf = true) :
    Calls Try.prog 9 #[.int .u64 n1, .int .u64 n2] w fun e w' => e = .returned (.bool true) ∧ Below w.heap.size w w' := by
  obtain ⟨a, rfl, ha⟩ : ∃ m : Nat, n1 = (m : Int) ∧ m < two64 := by
    simp [Lit.wf, IntKind.min, IntKind.max, IntKind.signed, IntKind.bits] at wf1
    rw [two64_eq]
    exact ⟨n1.toNat, by omega, by omega⟩
  obtain ⟨b, rfl, hb⟩ : ∃ m : Nat, n2 = (m : Int) ∧ m < two64 := by
    simp [Lit.wf, IntKind.min, IntKind.max, IntKind.signed, IntKind.bits] at wf2
    rw [two64_eq]
    exact ⟨n2.toNat, by omega, by omega⟩
  clear wf1 wf2
  have HA := Lib.hid ha
  have HB := Lib.hid hb
  clear ha hb
  go_enter Try.func9, Try.ntmps9
  go_wp2_with fail
  refine (wlives_any w).mono ?_
  rintro e w1 ⟨rfl, hb1⟩
  go_wp2_with fail
  have HCA := Lib.hid (fun w => wnum_any w a HA.out)
  have HCB := Lib.hid (fun w => wnum_any w b HB.out)
  apply wp_region_rel (fun w' => Below w.heap.size w w') (fun a b => Below a.heap.size a b) (fun i x w => match i with
      | 0 => x = .int .u64 a
      | 1 => ∃ A c, x = .slice A (Wire.num a).length c ∧ BRow w A (Wire.num a)
      | 2 => x = txt (Wire.num a)
      | 3 => x = .int .u64 b
      | 4 => ∃ A c, x = .slice A (Wire.num b).length c ∧ BRow w A (Wire.num b)
      | 5 => x = txt (Wire.num b)
      | 6 => x = txt (Wire.num a)
      | 7 => x = txt (Wire.num b)
      | _ => True)
  case hG => (intro v; simp only [regFrame, List.zipIdx_cons, List.zipIdx_nil, List.foldl_cons, List.foldl_nil, Act.put, List.setIfInBounds_toArray, List.set_cons_zero, List.set_cons_succ, Nat.reduceAdd]; rfl)
  case hm => kernel_rfl
  case honce => rfl
  case hlow => kernel_rfl
  case hInv => exact fun _ _ h h' => h.trans (h'.mono h.size)
  case hR =>
    intro i x w1 w2 _ hb h
    split at h <;> first | exact h | (obtain ⟨A, c, rfl, h⟩ := h; exact ⟨A, c, rfl, h.below hb⟩)
  case h0 => exact hb1.drew
  case hstep =>
    refine ⟨?_, ?_, ?_, ?_, ?_, ?_, ?_, ?_, trivial⟩ <;> intro v w1 hI hd _ <;> simp only [Deps, Region.binds, ↓reduceIte] at hd
    · exact opDoes_move _ rfl rfl ⟨Below.refl _ _, rfl⟩
    · refine opDoes_call _ _ _ #[.int .u64 (a : Int)] rfl rfl (by go_simp) (Try.call23 _ _) ?_
      exact (HCA.out w1).mono fun e w2 ⟨A, c, he, ho, hb⟩ => ⟨_, he, hb, A, c, rfl, ho.row⟩
    · obtain ⟨⟨A, c, h0, hr⟩, _⟩ := hd
      have hcv := run_string_bytes w1 c hr
      refine opDoes_run rfl (x := txt (Wire.num a)) ?_ ⟨Below.refl _ _, rfl⟩
      go_simp
    · exact opDoes_move _ rfl rfl ⟨Below.refl _ _, rfl⟩
    · refine opDoes_call _ _ _ #[.int .u64 (b : Int)] rfl rfl (by go_simp) (Try.call23 _ _) ?_
      exact (HCB.out w1).mono fun e w2 ⟨A, c, he, ho, hb⟩ => ⟨_, he, hb, A, c, rfl, ho.row⟩
    · obtain ⟨⟨A, c, h0, hr⟩, _⟩ := hd
      have hcv := run_string_bytes w1 c hr
      refine opDoes_run rfl (x := txt (Wire.num b)) ?_ ⟨Below.refl _ _, rfl⟩
      go_simp
    · obtain ⟨h0, _⟩ := hd
      refine opDoes_assign _ rfl rfl ⟨Below.refl _ _, ?_⟩
      go_simp
    · obtain ⟨h0, _⟩ := hd
      refine opDoes_assign _ rfl rfl ⟨Below.refl _ _, ?_⟩
      go_simp
  case hend =>
    intro v w2 hI h
    simp only [AllOps, Nat.zero_add, Nat.reduceAdd, and_true] at h
    rw [h.2.2.2.2.2.2.1, h.2.2.2.2.2.2.2]
    clear h
    have hpa := Wire.num_length a
    have hpb := Wire.num_length b
    have HS := Lib.hid hI
    clear hI hb1
    rcases Nat.lt_trichotomy a b with hab | hab | hab
    · skip
      have hmono := Wire.numF_mono 10 a b (by omega)
      have hne := num_apart HA.out HB.out (by omega)
      rw [Nat.min_eq_left (show (Wire.num a).length ≤ (Wire.num b).length from hmono)] at hne
      have hml : (Wire.num a).length ≤ (Wire.num b).length := hmono
      clear hmono
      generalize Wire.num a = p at hpa hne hml
      generalize Wire.num b = q at hpb hne hml
      have HE : Hid (p.take p.length ≠ q.take p.length) := hne
      have hx : ¬ ((ByteArray.mk p.toArray).extract 0 p.length).toList = ((ByteArray.mk q.toArray).extract 0 p.length).toList := by
        rw [cut_txt, cut_txt, ByteArray.toList_eq, ByteArray.toList_eq]
        exact HE.out
      have hx2 := beq_eq_false_iff_ne.2 hx
      have g1 : (0 : Int) < (p.length : Int) := by omega
      have g2 : (p.length : Int) ≤ 10 := by omega
      have g3 : ((a : Int) == (b : Int)) = false := by simp; omega
      have g4 : decide ((b : Int) < (a : Int)) = false := by simp; omega
      have g5 : a ≤ b := by omega
      clear hne
      unfold txt
      go_wp2_with fail
      go_quiet (fail)
      go_wp2_with fail
      go_ret
      exact ⟨rfl, below_drewN HS.out _⟩
    · subst hab
      generalize Wire.num a = p at hpa
      clear hpb
      have g1 : (0 : Int) < (p.length : Int) := by omega
      have g2 : (p.length : Int) ≤ 10 := by omega
      unfold txt
      go_wp2_with fail
      go_quiet (fail)
      go_wp2_with fail
      go_ret
      exact ⟨rfl, below_drewN HS.out _⟩
    · skip
      have hmono := Wire.numF_mono 10 b a (by omega)
      have hne := num_apart HA.out HB.out (by omega)
      rw [Nat.min_eq_right (show (Wire.num b).length ≤ (Wire.num a).length from hmono)] at hne
      have hml : (Wire.num b).length ≤ (Wire.num a).length := hmono
      clear hmono
      generalize Wire.num a = p at hpa hne hml
      generalize Wire.num b = q at hpb hne hml
      have HE : Hid (p.take q.length ≠ q.take q.length) := hne
      have hx : ¬ ((ByteArray.mk p.toArray).extract 0 q.length).toList = ((ByteArray.mk q.toArray).extract 0 q.length).toList := by
        rw [cut_txt, cut_txt, ByteArray.toList_eq, ByteArray.toList_eq]
        exact HE.out
      have hx2 := beq_eq_false_iff_ne.2 hx
      have g1 : (0 : Int) < (p.length : Int) := by omega
      have g2 : (p.length : Int) ≤ 10 := by omega
      have g3 : ((a : Int) == (b : Int)) = false := by simp; omega
      have g4 : (b : Int) < (a : Int) := by omega
      have g5 : ¬ a ≤ b := by omega
      clear hne
      rcases Nat.lt_or_eq_of_le hml with hlq | hlq
      · clear hml
        unfold txt
        go_wp2_with fail
        go_quiet (fail)
        go_wp2_with fail
        go_ret
        exact ⟨rfl, below_drewN HS.out _⟩
      · rw [hlq] at hx hx2
        have HLQ := Lib.hid hlq
        have hlq2 : (p.length : Int) ≤ (q.length : Int) := by omega
        have hlq3 : p.length ≤ q.length := by omega
        clear hml
        unfold txt
        go_wp2_with fail
        go_quiet (fail)
        go_wp2_with fail
        go_ret
        exact ⟨rfl, below_drewN HS.out _⟩
end Go.Proofs.Ytgdlfihiheeniaa
