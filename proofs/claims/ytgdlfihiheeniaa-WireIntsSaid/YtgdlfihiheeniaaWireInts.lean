/-
  The walk of WireInts.
-/
import Derived.Test.YtgdlfihiheeniaaWireLives
import Derived.Test.YtgdlfihiheeniaaRegionSt
namespace Go.Proofs.Ytgdlfihiheeniaa
open Go.RowKit

set_option maxRecDepth 20000 in
set_option maxHeartbeats 1000000 in
theorem wireInts_walk (w : World) (n : Int) (wf : (Lit.int .i64 n).wf = true) (x : Bool) :
    Calls Try.prog 14 #[.int .i64 n, .bool x] w fun e w' => e = .returned (.bool true) ∧ Below w.heap.size w w' := by
  have hm : -9223372036854775808 ≤ n ∧ n ≤ 9223372036854775807 := by
    simp [Lit.wf, IntKind.min, IntKind.max, IntKind.signed, IntKind.bits] at wf
    exact wf
  clear wf
  have HM := Lib.hid hm
  clear hm
  go_enter Try.func14, Try.ntmps14
  go_wp2_with fail
  refine (wlives_any w).mono ?_
  rintro e w1 ⟨rfl, hb1⟩
  go_wp2_with fail
  refine (wint_any w1 n HM.out.1 HM.out.2).mono ?_
  rintro e w2 ⟨A2, c2, rfl, ho2, hb2⟩
  have h10 := (Wire.num_length (Wire.ofInt n)).2
  have hB2 : Below w.heap.size w w2 := hb1.trans (hb2.mono hb1.size)
  have hz2 := hB2.size
  have HB2 := Lib.hid hB2
  have hr2 := ho2.row
  have hlt := Wire.ofInt_lt n HM.out.1 HM.out.2
  have HT : Hid (Wire.takeInt ⟨Wire.num (Wire.ofInt n) ++ [if x then 1 else 0], 0⟩ = (⟨[if x then 1 else 0], 0⟩, n)) := by
    show _ = _
    unfold Wire.takeInt
    rw [Wire.take_num _ hlt, Wire.toInt_ofInt]
  have HTB : Hid (Wire.takeBool ⟨[if x then 1 else 0], 0⟩ = (⟨[], 0⟩, x)) := by cases x <;> rfl
  have HRF := Lib.hid (fun w => refint_any w n HM.out.1 HM.out.2)
  clear hb1 hb2 hB2 ho2 hlt
  generalize Wire.num (Wire.ofInt n) = p at hr2 h10 HT HRF
  have hoe : BOwn (w2.alloc (.cells #[] 5)) w2.heap.size (some ⟨w2.heap.size, 0, none⟩) 0 [] := BOwn.new w2 [] (by simp) (Nat.le_refl _)
  have hba : Below w2.heap.size w2 (w2.alloc (.cells #[] 5)) := (Below.refl _ _).alloc (Nat.le_refl _) _
  go_wp2_with (at_builtin; refine wpList_append_bytes rfl (.tmp 11) (.tmp 12) rfl _ rfl hoe rfl _ rfl (hr2.alloc _) rfl (by simp; omega) (by simp) ?_; intro A3 c3 w3 ho3 hb3 _ _)
  have hB3 : Below w2.heap.size w2 w3 := hba.trans hb3
  refine (wbool_any w3 x).mono ?_
  rintro e w4 ⟨A4, c4, rfl, ho4, hb4⟩
  have ho34 := ho3.below hb4
  have hr4 := ho4.row
  have hB4 : Below w2.heap.size w2 w4 := hB3.trans (hb4.mono hB3.size)
  have hz4 := hB4.size
  simp only [List.nil_append] at ho34
  clear ho3 ho4 hb3 hb4 hB3 hba hoe
  generalize (if x then (1 : UInt8) else 0) = xb at hr4 HT HTB
  go_wp2_with (at_builtin; refine wpList_append_bytes rfl (.tmp 13) (.tmp 15) rfl _ rfl ho34 rfl _ rfl hr4 rfl (by simp; omega) hz4 ?_; intro A5 c5 w5 ho5 hb5 _ _)
  have hB5 : Below w2.heap.size w2 w5 := hB4.trans hb5
  have hr5 := ho5.row
  have hr5p := hr2.below hB5
  have HW5 : Hid (Below w.heap.size w w5) := HB2.out.trans (hB5.mono hz2)
  have hz5 := HW5.out.size
  rw [show p.length + 1 = (p ++ [xb]).length from by simp]
  clear ho34 ho5 hb5 hB5 hB4 hr2 hr4
  refine (wread_any w5 A5 c5 (p ++ [xb]) hr5 (by simp; omega)).mono ?_
  rintro e w6 ⟨g, rfl, ho6, hb6⟩
  have hgw : w.heap.size ≤ g := Nat.le_trans hz5 ho6.ge
  have HRD := Lib.hid ho6.rd
  have hr6 := hr5p.below hb6
  have HB6 : Hid (Below w.heap.size w w6) := HW5.out.trans (hb6.mono hz5)
  clear ho6 hb6 hr5 hr5p HB2 HW5
  go_wp2_with fail
  apply wp_region_st (fun D w' => Below w.heap.size w w' ∧ BRow w' A2 p ∧ RD w' g (if D 18 then ⟨[], 0⟩ else if D 7 then ⟨[xb], 0⟩ else ⟨p ++ [xb], 0⟩)) (fun _ _ => True) (fun i v w => match i with
      | 0 => v = .slice A2 p.length c2
      | 1 => v = txt p
      | 2 => v = .int .i64 n
      | 3 => v = txt p
      | 4 => v = .bool true
      | 5 => v = .bool true
      | 6 => v = .pointer (some ⟨g, 0, none⟩)
      | 7 => v = .int .i64 n
      | 8 => v = .int .i64 n
      | 9 => v = .bool true
      | 10 => v = .bool true
      | 11 => v = .bool true
      | 12 => v = .pointer (some ⟨g, 0, none⟩)
      | 13 => v = .int .i64 1
      | 14 => v = .bool true
      | 15 => v = .bool true
      | 16 => v = .bool true
      | 17 => v = .pointer (some ⟨g, 0, none⟩)
      | 18 => v = .bool x
      | 19 => v = .bool x
      | 20 => v = .bool true
      | 21 => v = .bool true
      | 22 => v = .bool true
      | 23 => v = .pointer (some ⟨g, 0, none⟩)
      | 24 => v = .int .i64 0
      | 25 => v = .bool true
      | 26 => v = .bool true
      | 27 => v = .bool true
      | _ => True)
  case hG => (intro v; simp only [regFrame, List.zipIdx_cons, List.zipIdx_nil, List.foldl_cons, List.foldl_nil, Act.put, List.setIfInBounds_toArray, List.set_cons_zero, List.set_cons_succ, Nat.reduceAdd]; rfl)
  case hm => kernel_rfl
  case honce => rfl
  case hlow => kernel_rfl
  case hR => (intro i x w1 w2 _ h; split at h <;> exact h)
  case h0 => exact ⟨HB6.out.drew, hr6.drew, HRD.out.drew⟩
  case hstep =>
    refine ⟨?_, ?_, ?_, ?_, ?_, ?_, ?_, ?_, ?_, ?_, ?_, ?_, ?_, ?_, ?_, ?_, ?_, ?_, ?_, ?_, ?_, ?_, ?_, ?_, ?_, ?_, ?_, ?_, trivial⟩ <;> (intro D v w1 hI hf hd hc; simp only [Deps, Region.binds, ↓reduceIte] at hd)
    · (first | exact opDoes_move _ rfl rfl ⟨(by first | trivial | exact fun _ _ h => h | exact Below.refl _ _), rfl, by (first | exact hI | simpa using hI)⟩ | exact opDoes_gmove _ (wanted_guard rfl rfl rfl (by simp only [hd]; rfl)) rfl ⟨(by first | trivial | exact fun _ _ h => h | exact Below.refl _ _), rfl, by (first | exact hI | simpa using hI)⟩ | (refine opDoes_move _ rfl rfl ⟨(by first | trivial | exact fun _ _ h => h | exact Below.refl _ _), ?_, by (first | exact hI | simpa using hI)⟩; go_simp; done) | (refine opDoes_gmove _ (wanted_guard rfl rfl rfl (by simp only [hd]; rfl)) rfl ⟨(by first | trivial | exact fun _ _ h => h | exact Below.refl _ _), ?_, by (first | exact hI | simpa using hI)⟩; go_simp; done) | (refine opDoes_assign _ rfl rfl ⟨(by first | trivial | exact fun _ _ h => h | exact Below.refl _ _), ?_, by (first | exact hI | simpa using hI)⟩; go_simp; done))
    · have hcv := run_string_bytes w1 c2 hI.2.1
      (first | (refine opDoes_run (x := (txt p)) rfl ?_ ⟨(by first | trivial | exact fun _ _ h => h | exact Below.refl _ _), rfl, by (first | exact hI | simpa using hI)⟩; go_simp; done) | (refine opDoes_grun (x := (txt p)) (wanted_guard rfl rfl rfl (by simp only [hd]; rfl)) ?_ ⟨(by first | trivial | exact fun _ _ h => h | exact Below.refl _ _), rfl, by (first | exact hI | simpa using hI)⟩; go_simp; done))
    · (first | exact opDoes_move _ rfl rfl ⟨(by first | trivial | exact fun _ _ h => h | exact Below.refl _ _), rfl, by (first | exact hI | simpa using hI)⟩ | exact opDoes_gmove _ (wanted_guard rfl rfl rfl (by simp only [hd]; rfl)) rfl ⟨(by first | trivial | exact fun _ _ h => h | exact Below.refl _ _), rfl, by (first | exact hI | simpa using hI)⟩ | (refine opDoes_move _ rfl rfl ⟨(by first | trivial | exact fun _ _ h => h | exact Below.refl _ _), ?_, by (first | exact hI | simpa using hI)⟩; go_simp; done) | (refine opDoes_gmove _ (wanted_guard rfl rfl rfl (by simp only [hd]; rfl)) rfl ⟨(by first | trivial | exact fun _ _ h => h | exact Below.refl _ _), ?_, by (first | exact hI | simpa using hI)⟩; go_simp; done) | (refine opDoes_assign _ rfl rfl ⟨(by first | trivial | exact fun _ _ h => h | exact Below.refl _ _), ?_, by (first | exact hI | simpa using hI)⟩; go_simp; done))
    · refine opDoes_call _ _ _ #[.int .i64 n] rfl rfl (by go_simp) (Try.call40 _ _) ?_
      exact (HRF.out w1).mono fun e w2 ⟨he, hb⟩ => ⟨_, he, trivial, rfl, by
        simpa using (⟨hI.1.trans (hb.mono hI.1.size), hI.2.1.below hb, hI.2.2.below hb⟩ : _ ∧ _ ∧ _)⟩
    · unfold txt at hd
      (first | (refine opDoes_run (x := (.bool true)) rfl ?_ ⟨(by first | trivial | exact fun _ _ h => h | exact Below.refl _ _), rfl, by (first | exact hI | simpa using hI)⟩; go_simp; done) | (refine opDoes_grun (x := (.bool true)) (wanted_guard rfl rfl rfl (by simp only [hd]; rfl)) ?_ ⟨(by first | trivial | exact fun _ _ h => h | exact Below.refl _ _), rfl, by (first | exact hI | simpa using hI)⟩; go_simp; done))
    · (first | exact opDoes_move _ rfl rfl ⟨(by first | trivial | exact fun _ _ h => h | exact Below.refl _ _), rfl, by (first | exact hI | simpa using hI)⟩ | exact opDoes_gmove _ (wanted_guard rfl rfl rfl (by simp only [hd]; rfl)) rfl ⟨(by first | trivial | exact fun _ _ h => h | exact Below.refl _ _), rfl, by (first | exact hI | simpa using hI)⟩ | (refine opDoes_move _ rfl rfl ⟨(by first | trivial | exact fun _ _ h => h | exact Below.refl _ _), ?_, by (first | exact hI | simpa using hI)⟩; go_simp; done) | (refine opDoes_gmove _ (wanted_guard rfl rfl rfl (by simp only [hd]; rfl)) rfl ⟨(by first | trivial | exact fun _ _ h => h | exact Below.refl _ _), ?_, by (first | exact hI | simpa using hI)⟩; go_simp; done) | (refine opDoes_assign _ rfl rfl ⟨(by first | trivial | exact fun _ _ h => h | exact Below.refl _ _), ?_, by (first | exact hI | simpa using hI)⟩; go_simp; done))
    · (first | exact opDoes_move _ rfl rfl ⟨(by first | trivial | exact fun _ _ h => h | exact Below.refl _ _), rfl, by (first | exact hI | simpa using hI)⟩ | exact opDoes_gmove _ (wanted_guard rfl rfl rfl (by simp only [hd]; rfl)) rfl ⟨(by first | trivial | exact fun _ _ h => h | exact Below.refl _ _), rfl, by (first | exact hI | simpa using hI)⟩ | (refine opDoes_move _ rfl rfl ⟨(by first | trivial | exact fun _ _ h => h | exact Below.refl _ _), ?_, by (first | exact hI | simpa using hI)⟩; go_simp; done) | (refine opDoes_gmove _ (wanted_guard rfl rfl rfl (by simp only [hd]; rfl)) rfl ⟨(by first | trivial | exact fun _ _ h => h | exact Below.refl _ _), ?_, by (first | exact hI | simpa using hI)⟩; go_simp; done) | (refine opDoes_assign _ rfl rfl ⟨(by first | trivial | exact fun _ _ h => h | exact Below.refl _ _), ?_, by (first | exact hI | simpa using hI)⟩; go_simp; done))
    · refine opDoes_gcall _ _ _ #[.pointer (some ⟨g, 0, none⟩)] (wanted_guard rfl rfl rfl (by simp only [hd]; rfl)) rfl (by go_simp) (Try.call35 _ _) ?_
      have h18 : D 18 = false := by
        cases h : D 18
        · rfl
        · have := done_of hc 20 7 h (by kernel_rfl)
          rw [hf] at this
          cases this
      rw [h18, hf] at hI
      have hn := rint_any w1 g _ hI.2.2
      simp only [Bool.false_eq_true, if_false] at hn
      rw [HT.out] at hn
      exact hn.mono fun e w2 hx => ⟨_, hx.1, trivial, rfl, by
        simpa [h18] using (⟨hx.below hI.1 hI.1.size hgw, did_row hI.2.2 hI.2.1 hx, hx.2.1⟩ : _ ∧ _ ∧ _)⟩
    · (first | exact opDoes_move _ rfl rfl ⟨(by first | trivial | exact fun _ _ h => h | exact Below.refl _ _), rfl, by (first | exact hI | simpa using hI)⟩ | exact opDoes_gmove _ (wanted_guard rfl rfl rfl (by simp only [hd]; rfl)) rfl ⟨(by first | trivial | exact fun _ _ h => h | exact Below.refl _ _), rfl, by (first | exact hI | simpa using hI)⟩ | (refine opDoes_move _ rfl rfl ⟨(by first | trivial | exact fun _ _ h => h | exact Below.refl _ _), ?_, by (first | exact hI | simpa using hI)⟩; go_simp; done) | (refine opDoes_gmove _ (wanted_guard rfl rfl rfl (by simp only [hd]; rfl)) rfl ⟨(by first | trivial | exact fun _ _ h => h | exact Below.refl _ _), ?_, by (first | exact hI | simpa using hI)⟩; go_simp; done) | (refine opDoes_assign _ rfl rfl ⟨(by first | trivial | exact fun _ _ h => h | exact Below.refl _ _), ?_, by (first | exact hI | simpa using hI)⟩; go_simp; done))
    · (first | (refine opDoes_run (x := (.bool true)) rfl ?_ ⟨(by first | trivial | exact fun _ _ h => h | exact Below.refl _ _), rfl, by (first | exact hI | simpa using hI)⟩; go_simp; done) | (refine opDoes_grun (x := (.bool true)) (wanted_guard rfl rfl rfl (by simp only [hd]; rfl)) ?_ ⟨(by first | trivial | exact fun _ _ h => h | exact Below.refl _ _), rfl, by (first | exact hI | simpa using hI)⟩; go_simp; done))
    · (first | (refine opDoes_run (x := (.bool true)) rfl ?_ ⟨(by first | trivial | exact fun _ _ h => h | exact Below.refl _ _), rfl, by (first | exact hI | simpa using hI)⟩; go_simp; done) | (refine opDoes_grun (x := (.bool true)) (wanted_guard rfl rfl rfl (by simp only [hd]; rfl)) ?_ ⟨(by first | trivial | exact fun _ _ h => h | exact Below.refl _ _), rfl, by (first | exact hI | simpa using hI)⟩; go_simp; done))
    · (first | exact opDoes_move _ rfl rfl ⟨(by first | trivial | exact fun _ _ h => h | exact Below.refl _ _), rfl, by (first | exact hI | simpa using hI)⟩ | exact opDoes_gmove _ (wanted_guard rfl rfl rfl (by simp only [hd]; rfl)) rfl ⟨(by first | trivial | exact fun _ _ h => h | exact Below.refl _ _), rfl, by (first | exact hI | simpa using hI)⟩ | (refine opDoes_move _ rfl rfl ⟨(by first | trivial | exact fun _ _ h => h | exact Below.refl _ _), ?_, by (first | exact hI | simpa using hI)⟩; go_simp; done) | (refine opDoes_gmove _ (wanted_guard rfl rfl rfl (by simp only [hd]; rfl)) rfl ⟨(by first | trivial | exact fun _ _ h => h | exact Below.refl _ _), ?_, by (first | exact hI | simpa using hI)⟩; go_simp; done) | (refine opDoes_assign _ rfl rfl ⟨(by first | trivial | exact fun _ _ h => h | exact Below.refl _ _), ?_, by (first | exact hI | simpa using hI)⟩; go_simp; done))
    · (first | exact opDoes_move _ rfl rfl ⟨(by first | trivial | exact fun _ _ h => h | exact Below.refl _ _), rfl, by (first | exact hI | simpa using hI)⟩ | exact opDoes_gmove _ (wanted_guard rfl rfl rfl (by simp only [hd]; rfl)) rfl ⟨(by first | trivial | exact fun _ _ h => h | exact Below.refl _ _), rfl, by (first | exact hI | simpa using hI)⟩ | (refine opDoes_move _ rfl rfl ⟨(by first | trivial | exact fun _ _ h => h | exact Below.refl _ _), ?_, by (first | exact hI | simpa using hI)⟩; go_simp; done) | (refine opDoes_gmove _ (wanted_guard rfl rfl rfl (by simp only [hd]; rfl)) rfl ⟨(by first | trivial | exact fun _ _ h => h | exact Below.refl _ _), ?_, by (first | exact hI | simpa using hI)⟩; go_simp; done) | (refine opDoes_assign _ rfl rfl ⟨(by first | trivial | exact fun _ _ h => h | exact Below.refl _ _), ?_, by (first | exact hI | simpa using hI)⟩; go_simp; done))
    · refine opDoes_gcall _ _ _ #[.pointer (some ⟨g, 0, none⟩)] (wanted_guard rfl rfl rfl (by simp only [hd]; rfl)) rfl (by go_simp) (Try.call27 _ _) ?_
      have h7 := done_of hc 20 7 hd.1.1 (by kernel_rfl)
      have h18 : D 18 = false := by
        cases h : D 18
        · rfl
        · have := done_of hc 20 13 h (by kernel_rfl)
          rw [hf] at this
          cases this
      have hn := rleft_any w1 g _ hI.2.2
      rw [h7, h18] at hn
      exact hn.mono fun e w2 ⟨he, hw⟩ => ⟨_, he, trivial, rfl, by subst hw; (first | exact hI | simpa using hI)⟩
    · (first | (refine opDoes_run (x := (.bool true)) rfl ?_ ⟨(by first | trivial | exact fun _ _ h => h | exact Below.refl _ _), rfl, by (first | exact hI | simpa using hI)⟩; go_simp; done) | (refine opDoes_grun (x := (.bool true)) (wanted_guard rfl rfl rfl (by simp only [hd]; rfl)) ?_ ⟨(by first | trivial | exact fun _ _ h => h | exact Below.refl _ _), rfl, by (first | exact hI | simpa using hI)⟩; go_simp; done))
    · (first | (refine opDoes_run (x := (.bool true)) rfl ?_ ⟨(by first | trivial | exact fun _ _ h => h | exact Below.refl _ _), rfl, by (first | exact hI | simpa using hI)⟩; go_simp; done) | (refine opDoes_grun (x := (.bool true)) (wanted_guard rfl rfl rfl (by simp only [hd]; rfl)) ?_ ⟨(by first | trivial | exact fun _ _ h => h | exact Below.refl _ _), rfl, by (first | exact hI | simpa using hI)⟩; go_simp; done))
    · (first | exact opDoes_move _ rfl rfl ⟨(by first | trivial | exact fun _ _ h => h | exact Below.refl _ _), rfl, by (first | exact hI | simpa using hI)⟩ | exact opDoes_gmove _ (wanted_guard rfl rfl rfl (by simp only [hd]; rfl)) rfl ⟨(by first | trivial | exact fun _ _ h => h | exact Below.refl _ _), rfl, by (first | exact hI | simpa using hI)⟩ | (refine opDoes_move _ rfl rfl ⟨(by first | trivial | exact fun _ _ h => h | exact Below.refl _ _), ?_, by (first | exact hI | simpa using hI)⟩; go_simp; done) | (refine opDoes_gmove _ (wanted_guard rfl rfl rfl (by simp only [hd]; rfl)) rfl ⟨(by first | trivial | exact fun _ _ h => h | exact Below.refl _ _), ?_, by (first | exact hI | simpa using hI)⟩; go_simp; done) | (refine opDoes_assign _ rfl rfl ⟨(by first | trivial | exact fun _ _ h => h | exact Below.refl _ _), ?_, by (first | exact hI | simpa using hI)⟩; go_simp; done))
    · (first | exact opDoes_move _ rfl rfl ⟨(by first | trivial | exact fun _ _ h => h | exact Below.refl _ _), rfl, by (first | exact hI | simpa using hI)⟩ | exact opDoes_gmove _ (wanted_guard rfl rfl rfl (by simp only [hd]; rfl)) rfl ⟨(by first | trivial | exact fun _ _ h => h | exact Below.refl _ _), rfl, by (first | exact hI | simpa using hI)⟩ | (refine opDoes_move _ rfl rfl ⟨(by first | trivial | exact fun _ _ h => h | exact Below.refl _ _), ?_, by (first | exact hI | simpa using hI)⟩; go_simp; done) | (refine opDoes_gmove _ (wanted_guard rfl rfl rfl (by simp only [hd]; rfl)) rfl ⟨(by first | trivial | exact fun _ _ h => h | exact Below.refl _ _), ?_, by (first | exact hI | simpa using hI)⟩; go_simp; done) | (refine opDoes_assign _ rfl rfl ⟨(by first | trivial | exact fun _ _ h => h | exact Below.refl _ _), ?_, by (first | exact hI | simpa using hI)⟩; go_simp; done))
    · refine opDoes_gcall _ _ _ #[.pointer (some ⟨g, 0, none⟩)] (wanted_guard rfl rfl rfl (by simp only [hd]; rfl)) rfl (by go_simp) (Try.call37 _ _) ?_
      have h7 := done_of hc 20 7 hd.1.1 (by kernel_rfl)
      rw [h7, hf] at hI
      have hn := rbool_any w1 g _ hI.2.2
      simp only [Bool.false_eq_true, if_false, if_true] at hn
      rw [HTB.out] at hn
      exact hn.mono fun e w2 hx => ⟨_, hx.1, trivial, rfl, by
        simpa [h7] using (⟨hx.below hI.1 hI.1.size hgw, did_row hI.2.2 hI.2.1 hx, hx.2.1⟩ : _ ∧ _ ∧ _)⟩
    · (first | exact opDoes_move _ rfl rfl ⟨(by first | trivial | exact fun _ _ h => h | exact Below.refl _ _), rfl, by (first | exact hI | simpa using hI)⟩ | exact opDoes_gmove _ (wanted_guard rfl rfl rfl (by simp only [hd]; rfl)) rfl ⟨(by first | trivial | exact fun _ _ h => h | exact Below.refl _ _), rfl, by (first | exact hI | simpa using hI)⟩ | (refine opDoes_move _ rfl rfl ⟨(by first | trivial | exact fun _ _ h => h | exact Below.refl _ _), ?_, by (first | exact hI | simpa using hI)⟩; go_simp; done) | (refine opDoes_gmove _ (wanted_guard rfl rfl rfl (by simp only [hd]; rfl)) rfl ⟨(by first | trivial | exact fun _ _ h => h | exact Below.refl _ _), ?_, by (first | exact hI | simpa using hI)⟩; go_simp; done) | (refine opDoes_assign _ rfl rfl ⟨(by first | trivial | exact fun _ _ h => h | exact Below.refl _ _), ?_, by (first | exact hI | simpa using hI)⟩; go_simp; done))
    · (first | (refine opDoes_run (x := (.bool true)) rfl ?_ ⟨(by first | trivial | exact fun _ _ h => h | exact Below.refl _ _), rfl, by (first | exact hI | simpa using hI)⟩; go_simp; done) | (refine opDoes_grun (x := (.bool true)) (wanted_guard rfl rfl rfl (by simp only [hd]; rfl)) ?_ ⟨(by first | trivial | exact fun _ _ h => h | exact Below.refl _ _), rfl, by (first | exact hI | simpa using hI)⟩; go_simp; done))
    · (first | (refine opDoes_run (x := (.bool true)) rfl ?_ ⟨(by first | trivial | exact fun _ _ h => h | exact Below.refl _ _), rfl, by (first | exact hI | simpa using hI)⟩; go_simp; done) | (refine opDoes_grun (x := (.bool true)) (wanted_guard rfl rfl rfl (by simp only [hd]; rfl)) ?_ ⟨(by first | trivial | exact fun _ _ h => h | exact Below.refl _ _), rfl, by (first | exact hI | simpa using hI)⟩; go_simp; done))
    · (first | exact opDoes_move _ rfl rfl ⟨(by first | trivial | exact fun _ _ h => h | exact Below.refl _ _), rfl, by (first | exact hI | simpa using hI)⟩ | exact opDoes_gmove _ (wanted_guard rfl rfl rfl (by simp only [hd]; rfl)) rfl ⟨(by first | trivial | exact fun _ _ h => h | exact Below.refl _ _), rfl, by (first | exact hI | simpa using hI)⟩ | (refine opDoes_move _ rfl rfl ⟨(by first | trivial | exact fun _ _ h => h | exact Below.refl _ _), ?_, by (first | exact hI | simpa using hI)⟩; go_simp; done) | (refine opDoes_gmove _ (wanted_guard rfl rfl rfl (by simp only [hd]; rfl)) rfl ⟨(by first | trivial | exact fun _ _ h => h | exact Below.refl _ _), ?_, by (first | exact hI | simpa using hI)⟩; go_simp; done) | (refine opDoes_assign _ rfl rfl ⟨(by first | trivial | exact fun _ _ h => h | exact Below.refl _ _), ?_, by (first | exact hI | simpa using hI)⟩; go_simp; done))
    · (first | exact opDoes_move _ rfl rfl ⟨(by first | trivial | exact fun _ _ h => h | exact Below.refl _ _), rfl, by (first | exact hI | simpa using hI)⟩ | exact opDoes_gmove _ (wanted_guard rfl rfl rfl (by simp only [hd]; rfl)) rfl ⟨(by first | trivial | exact fun _ _ h => h | exact Below.refl _ _), rfl, by (first | exact hI | simpa using hI)⟩ | (refine opDoes_move _ rfl rfl ⟨(by first | trivial | exact fun _ _ h => h | exact Below.refl _ _), ?_, by (first | exact hI | simpa using hI)⟩; go_simp; done) | (refine opDoes_gmove _ (wanted_guard rfl rfl rfl (by simp only [hd]; rfl)) rfl ⟨(by first | trivial | exact fun _ _ h => h | exact Below.refl _ _), ?_, by (first | exact hI | simpa using hI)⟩; go_simp; done) | (refine opDoes_assign _ rfl rfl ⟨(by first | trivial | exact fun _ _ h => h | exact Below.refl _ _), ?_, by (first | exact hI | simpa using hI)⟩; go_simp; done))
    · refine opDoes_gcall _ _ _ #[.pointer (some ⟨g, 0, none⟩)] (wanted_guard rfl rfl rfl (by simp only [hd]; rfl)) rfl (by go_simp) (Try.call32 _ _) ?_
      have h18 := done_of hc 20 18 hd.1.1 (by kernel_rfl)
      rw [h18] at hI
      have hn := rend_any w1 g _ hI.2.2
      simp only [if_true] at hn
      rw [show Wire.fin ⟨[], 0⟩ = ⟨[], 0⟩ from rfl] at hn
      exact hn.mono fun e w2 hx => ⟨_, hx.1, trivial, rfl, by
        simpa [h18] using (⟨hx.below hI.1 hI.1.size hgw, did_row hI.2.2 hI.2.1 hx, hx.2.1⟩ : _ ∧ _ ∧ _)⟩
    · (first | (refine opDoes_run (x := (.bool true)) rfl ?_ ⟨(by first | trivial | exact fun _ _ h => h | exact Below.refl _ _), rfl, by (first | exact hI | simpa using hI)⟩; go_simp; done) | (refine opDoes_grun (x := (.bool true)) (wanted_guard rfl rfl rfl (by simp only [hd]; rfl)) ?_ ⟨(by first | trivial | exact fun _ _ h => h | exact Below.refl _ _), rfl, by (first | exact hI | simpa using hI)⟩; go_simp; done))
    · (first | (refine opDoes_run (x := (.bool true)) rfl ?_ ⟨(by first | trivial | exact fun _ _ h => h | exact Below.refl _ _), rfl, by (first | exact hI | simpa using hI)⟩; go_simp; done) | (refine opDoes_grun (x := (.bool true)) (wanted_guard rfl rfl rfl (by simp only [hd]; rfl)) ?_ ⟨(by first | trivial | exact fun _ _ h => h | exact Below.refl _ _), rfl, by (first | exact hI | simpa using hI)⟩; go_simp; done))
    · (first | exact opDoes_move _ rfl rfl ⟨(by first | trivial | exact fun _ _ h => h | exact Below.refl _ _), rfl, by (first | exact hI | simpa using hI)⟩ | exact opDoes_gmove _ (wanted_guard rfl rfl rfl (by simp only [hd]; rfl)) rfl ⟨(by first | trivial | exact fun _ _ h => h | exact Below.refl _ _), rfl, by (first | exact hI | simpa using hI)⟩ | (refine opDoes_move _ rfl rfl ⟨(by first | trivial | exact fun _ _ h => h | exact Below.refl _ _), ?_, by (first | exact hI | simpa using hI)⟩; go_simp; done) | (refine opDoes_gmove _ (wanted_guard rfl rfl rfl (by simp only [hd]; rfl)) rfl ⟨(by first | trivial | exact fun _ _ h => h | exact Below.refl _ _), ?_, by (first | exact hI | simpa using hI)⟩; go_simp; done) | (refine opDoes_assign _ rfl rfl ⟨(by first | trivial | exact fun _ _ h => h | exact Below.refl _ _), ?_, by (first | exact hI | simpa using hI)⟩; go_simp; done))
  case hend =>
    intro D v w4 hI h
    simp only [AllOps, Nat.zero_add, Nat.reduceAdd, and_true] at h
    rw [h.2.2.2.2.2.2.2.2.2.2.2.2.2.2.2.2.2.2.2.2.2.2.2.2.2.2.2.2]
    have HF := Lib.hid hI.1
    clear h hI
    go_wp2_with fail
    go_ret
    exact ⟨rfl, HF.out⟩
end Go.Proofs.Ytgdlfihiheeniaa
