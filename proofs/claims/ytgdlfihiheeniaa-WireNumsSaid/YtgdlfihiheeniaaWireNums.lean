/-
  The walk of WireNums.
-/
import Derived.Test.YtgdlfihiheeniaaWireLives
import Derived.Test.YtgdlfihiheeniaaRegionSt
namespace Go.Proofs.Ytgdlfihiheeniaa
open Go.RowKit

set_option maxRecDepth 20000 in
set_option maxHeartbeats 1000000 in
theorem wireNums_walk (w : World) (n : Int) (wf : (Lit.int .u64 n).wf = true) (A : Option Addr) (c : Nat) (l : List UInt8) (hr : BRow w A l) (_hlc : l.length ≤ c) (_hcm : c ≤ maxLen) :
    Calls Try.prog 8 #[.int .u64 n, .slice A l.length c] w fun e w' => e = .returned (.bool true) ∧ Below w.heap.size w w' := by
  obtain ⟨m, rfl, hm⟩ : ∃ m : Nat, n = (m : Int) ∧ m < two64 := by
    simp [Lit.wf, IntKind.min, IntKind.max, IntKind.signed, IntKind.bits] at wf
    rw [two64_eq]
    exact ⟨n.toNat, by omega, by omega⟩
  clear wf
  have HM := Lib.hid hm
  clear hm
  go_enter Try.func8, Try.ntmps8
  go_wp2_with fail
  refine (wlives_any w).mono ?_
  rintro e w1 ⟨rfl, hb1⟩
  by_cases hl : 1000 < l.length
  · go_wp2_with fail
    refine (wlives_any w1).mono ?_
    rintro e w2 ⟨rfl, hb2⟩
    go_wp2_with fail
    go_ret
    exact ⟨rfl, hb1.trans (hb2.mono hb1.size)⟩
  · go_wp2_with fail
    refine (wnum_any w1 m HM.out).mono ?_
    rintro e w2 ⟨A2, c2, rfl, ho2, hb2⟩
    have h10 := (Wire.num_length m).2
    have hB2 : Below w.heap.size w w2 := hb1.trans (hb2.mono hb1.size)
    have hz2 := hB2.size
    have HB2 := Lib.hid hB2
    have hr2 := ho2.row
    have hr2l := hr.below hB2
    have HT := Lib.hid (Wire.take_num m HM.out l)
    have HRF := Lib.hid (fun w => refnum_all w m HM.out)
    clear hb1 hb2 hB2 ho2 hr
    generalize Wire.num m = p at hr2 h10 HT HRF
    have hoe : BOwn (w2.alloc (.cells #[] 5)) w2.heap.size (some ⟨w2.heap.size, 0, none⟩) 0 [] := BOwn.new w2 [] (by simp) (Nat.le_refl _)
    have hba : Below w2.heap.size w2 (w2.alloc (.cells #[] 5)) := (Below.refl _ _).alloc (Nat.le_refl _) _
    go_wp2_with (first
      | (at_builtin; refine wpList_append_bytes rfl (.tmp 17) (.tmp 18) rfl _ rfl hoe rfl _ rfl (hr2.alloc _) rfl (by simp; omega) (by simp) ?_; intro A3 c3 w3 ho3 hb3 _ _)
      | (at_builtin; refine wpList_append_bytes rfl (.tmp 19) (.tmp 20) rfl _ rfl ho3 rfl _ rfl (hr2l.below (hba.trans hb3)) rfl (by simp; omega) (hba.trans hb3).size ?_; intro A4 c4 w4 ho4 hb4 _ _))
    have hB4 : Below w2.heap.size w2 w4 := (hba.trans hb3).trans hb4
    have hr4 := ho4.row
    have hr4p := hr2.below hB4
    have HW4 : Hid (Below w.heap.size w w4) := HB2.out.trans (hB4.mono hz2)
    rw [List.nil_append] at hr4
    rw [← List.length_append]
    have hz4 := HW4.out.size
    clear ho3 ho4 hb3 hb4 hB4 hba hoe hr2 hr2l
    refine (wread_any w4 A4 c4 (p ++ l) hr4 (by simp; omega)).mono ?_
    rintro e w5 ⟨g, rfl, ho5, hb5⟩
    have hgw : w.heap.size ≤ g := Nat.le_trans hz4 ho5.ge
    have HRD := Lib.hid ho5.rd
    have hr5 := hr4p.below hb5
    have HB5 : Hid (Below w.heap.size w w5) := HW4.out.trans (hb5.mono hz4)
    clear ho5 hb5 hr4 hr4p HB2
    go_wp2_with fail
    apply wp_region_st (fun D w' => Below w.heap.size w w' ∧ BRow w' A2 p ∧ RD w' g (if D 7 then ⟨l, 0⟩ else ⟨p ++ l, 0⟩)) (fun _ _ => True) (fun i x w => match i with
        | 0 => x = .slice A2 p.length c2
        | 1 => x = txt p
        | 2 => x = .int .u64 m
        | 3 => x = txt p
        | 4 => x = .bool true
        | 5 => x = .bool true
        | 6 => x = .pointer (some ⟨g, 0, none⟩)
        | 7 => x = .int .u64 m
        | 8 => x = .int .u64 m
        | 9 => x = .bool true
        | 10 => x = .bool true
        | 11 => x = .bool true
        | 12 => x = .pointer (some ⟨g, 0, none⟩)
        | 13 => x = .int .i64 (l.length : Nat)
        | 14 => x = .slice A l.length c
        | 15 => x = .int .i64 (l.length : Nat)
        | 16 => x = .bool true
        | 17 => x = .bool true
        | 18 => x = .bool true
        | 19 => x = .pointer (some ⟨g, 0, none⟩)
        | 20 => x = .int .i64 0
        | 21 => x = .bool true
        | 22 => x = .bool true
        | 23 => x = .bool true
        | _ => True)
    case hG => (intro v; simp only [regFrame, List.zipIdx_cons, List.zipIdx_nil, List.foldl_cons, List.foldl_nil, Act.put, List.setIfInBounds_toArray, List.set_cons_zero, List.set_cons_succ, Nat.reduceAdd]; rfl)
    case hm => kernel_rfl
    case honce => rfl
    case hlow => kernel_rfl
    case hR => (intro i x w1 w2 _ h; split at h <;> exact h)
    case h0 => exact ⟨HB5.out.drew, hr5.drew, HRD.out.drew⟩
    case hstep =>
      refine ⟨?_, ?_, ?_, ?_, ?_, ?_, ?_, ?_, ?_, ?_, ?_, ?_, ?_, ?_, ?_, ?_, ?_, ?_, ?_, ?_, ?_, ?_, ?_, ?_, trivial⟩ <;> (intro D v w1 hI hf hd hc; simp only [Deps, Region.binds, ↓reduceIte] at hd)
      · (first | exact opDoes_move _ rfl rfl ⟨trivial, rfl, by (first | exact hI | simpa using hI)⟩ | exact opDoes_gmove _ (wanted_guard rfl rfl rfl (by simp only [hd]; rfl)) rfl ⟨trivial, rfl, by (first | exact hI | simpa using hI)⟩ | (refine opDoes_move _ rfl rfl ⟨trivial, ?_, by (first | exact hI | simpa using hI)⟩; go_simp; done) | (refine opDoes_gmove _ (wanted_guard rfl rfl rfl (by simp only [hd]; rfl)) rfl ⟨trivial, ?_, by (first | exact hI | simpa using hI)⟩; go_simp; done) | (refine opDoes_assign _ rfl rfl ⟨trivial, ?_, by (first | exact hI | simpa using hI)⟩; go_simp; done))
      · have hcv := run_string_bytes w1 c2 hI.2.1
        (first | (refine opDoes_run (x := (txt p)) rfl ?_ ⟨trivial, rfl, by (first | exact hI | simpa using hI)⟩; go_simp; done) | (refine opDoes_grun (x := (txt p)) (wanted_guard rfl rfl rfl (by simp only [hd]; rfl)) ?_ ⟨trivial, rfl, by (first | exact hI | simpa using hI)⟩; go_simp; done))
      · (first | exact opDoes_move _ rfl rfl ⟨trivial, rfl, by (first | exact hI | simpa using hI)⟩ | exact opDoes_gmove _ (wanted_guard rfl rfl rfl (by simp only [hd]; rfl)) rfl ⟨trivial, rfl, by (first | exact hI | simpa using hI)⟩ | (refine opDoes_move _ rfl rfl ⟨trivial, ?_, by (first | exact hI | simpa using hI)⟩; go_simp; done) | (refine opDoes_gmove _ (wanted_guard rfl rfl rfl (by simp only [hd]; rfl)) rfl ⟨trivial, ?_, by (first | exact hI | simpa using hI)⟩; go_simp; done) | (refine opDoes_assign _ rfl rfl ⟨trivial, ?_, by (first | exact hI | simpa using hI)⟩; go_simp; done))
      · refine opDoes_call _ _ _ #[.int .u64 m] rfl rfl (by go_simp) (Try.call25 _ _) ?_
        exact (HRF.out w1).mono fun e w2 ⟨he, hb⟩ => ⟨_, he, trivial, rfl, by
          simpa using (⟨hI.1.trans (hb.mono hI.1.size), hI.2.1.below hb, hI.2.2.below hb⟩ : _ ∧ _ ∧ _)⟩
      · unfold txt at hd
        (first | (refine opDoes_run (x := (.bool true)) rfl ?_ ⟨trivial, rfl, by (first | exact hI | simpa using hI)⟩; go_simp; done) | (refine opDoes_grun (x := (.bool true)) (wanted_guard rfl rfl rfl (by simp only [hd]; rfl)) ?_ ⟨trivial, rfl, by (first | exact hI | simpa using hI)⟩; go_simp; done))
      · (first | exact opDoes_move _ rfl rfl ⟨trivial, rfl, by (first | exact hI | simpa using hI)⟩ | exact opDoes_gmove _ (wanted_guard rfl rfl rfl (by simp only [hd]; rfl)) rfl ⟨trivial, rfl, by (first | exact hI | simpa using hI)⟩ | (refine opDoes_move _ rfl rfl ⟨trivial, ?_, by (first | exact hI | simpa using hI)⟩; go_simp; done) | (refine opDoes_gmove _ (wanted_guard rfl rfl rfl (by simp only [hd]; rfl)) rfl ⟨trivial, ?_, by (first | exact hI | simpa using hI)⟩; go_simp; done) | (refine opDoes_assign _ rfl rfl ⟨trivial, ?_, by (first | exact hI | simpa using hI)⟩; go_simp; done))
      · (first | exact opDoes_move _ rfl rfl ⟨trivial, rfl, by (first | exact hI | simpa using hI)⟩ | exact opDoes_gmove _ (wanted_guard rfl rfl rfl (by simp only [hd]; rfl)) rfl ⟨trivial, rfl, by (first | exact hI | simpa using hI)⟩ | (refine opDoes_move _ rfl rfl ⟨trivial, ?_, by (first | exact hI | simpa using hI)⟩; go_simp; done) | (refine opDoes_gmove _ (wanted_guard rfl rfl rfl (by simp only [hd]; rfl)) rfl ⟨trivial, ?_, by (first | exact hI | simpa using hI)⟩; go_simp; done) | (refine opDoes_assign _ rfl rfl ⟨trivial, ?_, by (first | exact hI | simpa using hI)⟩; go_simp; done))
      · refine opDoes_gcall _ _ _ #[.pointer (some ⟨g, 0, none⟩)] (wanted_guard rfl rfl rfl (by simp only [hd]; rfl)) rfl (by go_simp) (Try.call26 _ _) ?_
        rw [hf] at hI
        have hn := rnum_any w1 g _ hI.2.2
        simp only [Bool.false_eq_true, if_false] at hn
        rw [HT.out] at hn
        exact hn.mono fun e w2 hx => ⟨_, hx.1, trivial, rfl, by
          simpa using (⟨hx.below hI.1 hI.1.size hgw, did_row hI.2.2 hI.2.1 hx, hx.2.1⟩ : _ ∧ _ ∧ _)⟩
      · (first | exact opDoes_move _ rfl rfl ⟨trivial, rfl, by (first | exact hI | simpa using hI)⟩ | exact opDoes_gmove _ (wanted_guard rfl rfl rfl (by simp only [hd]; rfl)) rfl ⟨trivial, rfl, by (first | exact hI | simpa using hI)⟩ | (refine opDoes_move _ rfl rfl ⟨trivial, ?_, by (first | exact hI | simpa using hI)⟩; go_simp; done) | (refine opDoes_gmove _ (wanted_guard rfl rfl rfl (by simp only [hd]; rfl)) rfl ⟨trivial, ?_, by (first | exact hI | simpa using hI)⟩; go_simp; done) | (refine opDoes_assign _ rfl rfl ⟨trivial, ?_, by (first | exact hI | simpa using hI)⟩; go_simp; done))
      · (first | (refine opDoes_run (x := (.bool true)) rfl ?_ ⟨trivial, rfl, by (first | exact hI | simpa using hI)⟩; go_simp; done) | (refine opDoes_grun (x := (.bool true)) (wanted_guard rfl rfl rfl (by simp only [hd]; rfl)) ?_ ⟨trivial, rfl, by (first | exact hI | simpa using hI)⟩; go_simp; done))
      · (first | (refine opDoes_run (x := (.bool true)) rfl ?_ ⟨trivial, rfl, by (first | exact hI | simpa using hI)⟩; go_simp; done) | (refine opDoes_grun (x := (.bool true)) (wanted_guard rfl rfl rfl (by simp only [hd]; rfl)) ?_ ⟨trivial, rfl, by (first | exact hI | simpa using hI)⟩; go_simp; done))
      · (first | exact opDoes_move _ rfl rfl ⟨trivial, rfl, by (first | exact hI | simpa using hI)⟩ | exact opDoes_gmove _ (wanted_guard rfl rfl rfl (by simp only [hd]; rfl)) rfl ⟨trivial, rfl, by (first | exact hI | simpa using hI)⟩ | (refine opDoes_move _ rfl rfl ⟨trivial, ?_, by (first | exact hI | simpa using hI)⟩; go_simp; done) | (refine opDoes_gmove _ (wanted_guard rfl rfl rfl (by simp only [hd]; rfl)) rfl ⟨trivial, ?_, by (first | exact hI | simpa using hI)⟩; go_simp; done) | (refine opDoes_assign _ rfl rfl ⟨trivial, ?_, by (first | exact hI | simpa using hI)⟩; go_simp; done))
      · (first | exact opDoes_move _ rfl rfl ⟨trivial, rfl, by (first | exact hI | simpa using hI)⟩ | exact opDoes_gmove _ (wanted_guard rfl rfl rfl (by simp only [hd]; rfl)) rfl ⟨trivial, rfl, by (first | exact hI | simpa using hI)⟩ | (refine opDoes_move _ rfl rfl ⟨trivial, ?_, by (first | exact hI | simpa using hI)⟩; go_simp; done) | (refine opDoes_gmove _ (wanted_guard rfl rfl rfl (by simp only [hd]; rfl)) rfl ⟨trivial, ?_, by (first | exact hI | simpa using hI)⟩; go_simp; done) | (refine opDoes_assign _ rfl rfl ⟨trivial, ?_, by (first | exact hI | simpa using hI)⟩; go_simp; done))
      · refine opDoes_gcall _ _ _ #[.pointer (some ⟨g, 0, none⟩)] (wanted_guard rfl rfl rfl (by simp only [hd]; rfl)) rfl (by go_simp) (Try.call27 _ _) ?_
        have h7 := done_of hc 20 7 hd.1.1 (by kernel_rfl)
        have hn := rleft_any w1 g _ hI.2.2
        rw [h7, if_pos rfl] at hn
        exact hn.mono fun e w2 ⟨he, hw⟩ => ⟨_, he, trivial, rfl, by subst hw; (first | exact hI | simpa using hI)⟩
      · (first | exact opDoes_move _ rfl rfl ⟨trivial, rfl, by (first | exact hI | simpa using hI)⟩ | exact opDoes_gmove _ (wanted_guard rfl rfl rfl (by simp only [hd]; rfl)) rfl ⟨trivial, rfl, by (first | exact hI | simpa using hI)⟩ | (refine opDoes_move _ rfl rfl ⟨trivial, ?_, by (first | exact hI | simpa using hI)⟩; go_simp; done) | (refine opDoes_gmove _ (wanted_guard rfl rfl rfl (by simp only [hd]; rfl)) rfl ⟨trivial, ?_, by (first | exact hI | simpa using hI)⟩; go_simp; done) | (refine opDoes_assign _ rfl rfl ⟨trivial, ?_, by (first | exact hI | simpa using hI)⟩; go_simp; done))
      · (first | (refine opDoes_run (x := (.int .i64 (l.length : Nat))) rfl ?_ ⟨trivial, rfl, by (first | exact hI | simpa using hI)⟩; go_simp; done) | (refine opDoes_grun (x := (.int .i64 (l.length : Nat))) (wanted_guard rfl rfl rfl (by simp only [hd]; rfl)) ?_ ⟨trivial, rfl, by (first | exact hI | simpa using hI)⟩; go_simp; done))
      · (first | (refine opDoes_run (x := (.bool true)) rfl ?_ ⟨trivial, rfl, by (first | exact hI | simpa using hI)⟩; go_simp; done) | (refine opDoes_grun (x := (.bool true)) (wanted_guard rfl rfl rfl (by simp only [hd]; rfl)) ?_ ⟨trivial, rfl, by (first | exact hI | simpa using hI)⟩; go_simp; done))
      · (first | (refine opDoes_run (x := (.bool true)) rfl ?_ ⟨trivial, rfl, by (first | exact hI | simpa using hI)⟩; go_simp; done) | (refine opDoes_grun (x := (.bool true)) (wanted_guard rfl rfl rfl (by simp only [hd]; rfl)) ?_ ⟨trivial, rfl, by (first | exact hI | simpa using hI)⟩; go_simp; done))
      · (first | exact opDoes_move _ rfl rfl ⟨trivial, rfl, by (first | exact hI | simpa using hI)⟩ | exact opDoes_gmove _ (wanted_guard rfl rfl rfl (by simp only [hd]; rfl)) rfl ⟨trivial, rfl, by (first | exact hI | simpa using hI)⟩ | (refine opDoes_move _ rfl rfl ⟨trivial, ?_, by (first | exact hI | simpa using hI)⟩; go_simp; done) | (refine opDoes_gmove _ (wanted_guard rfl rfl rfl (by simp only [hd]; rfl)) rfl ⟨trivial, ?_, by (first | exact hI | simpa using hI)⟩; go_simp; done) | (refine opDoes_assign _ rfl rfl ⟨trivial, ?_, by (first | exact hI | simpa using hI)⟩; go_simp; done))
      · (first | exact opDoes_move _ rfl rfl ⟨trivial, rfl, by (first | exact hI | simpa using hI)⟩ | exact opDoes_gmove _ (wanted_guard rfl rfl rfl (by simp only [hd]; rfl)) rfl ⟨trivial, rfl, by (first | exact hI | simpa using hI)⟩ | (refine opDoes_move _ rfl rfl ⟨trivial, ?_, by (first | exact hI | simpa using hI)⟩; go_simp; done) | (refine opDoes_gmove _ (wanted_guard rfl rfl rfl (by simp only [hd]; rfl)) rfl ⟨trivial, ?_, by (first | exact hI | simpa using hI)⟩; go_simp; done) | (refine opDoes_assign _ rfl rfl ⟨trivial, ?_, by (first | exact hI | simpa using hI)⟩; go_simp; done))
      · refine opDoes_gcall _ _ _ #[.pointer (some ⟨g, 0, none⟩)] (wanted_guard rfl rfl rfl (by simp only [hd]; rfl)) rfl (by go_simp) (Try.call28 _ _) ?_
        have h7 := done_of hc 20 7 hd.1.1 (by kernel_rfl)
        have hn := rerr_any w1 g _ hI.2.2
        rw [h7, if_pos rfl] at hn
        exact hn.mono fun e w2 ⟨he, hw⟩ => ⟨_, he, trivial, rfl, by subst hw; (first | exact hI | simpa using hI)⟩
      · (first | (refine opDoes_run (x := (.bool true)) rfl ?_ ⟨trivial, rfl, by (first | exact hI | simpa using hI)⟩; go_simp; done) | (refine opDoes_grun (x := (.bool true)) (wanted_guard rfl rfl rfl (by simp only [hd]; rfl)) ?_ ⟨trivial, rfl, by (first | exact hI | simpa using hI)⟩; go_simp; done))
      · (first | (refine opDoes_run (x := (.bool true)) rfl ?_ ⟨trivial, rfl, by (first | exact hI | simpa using hI)⟩; go_simp; done) | (refine opDoes_grun (x := (.bool true)) (wanted_guard rfl rfl rfl (by simp only [hd]; rfl)) ?_ ⟨trivial, rfl, by (first | exact hI | simpa using hI)⟩; go_simp; done))
      · (first | exact opDoes_move _ rfl rfl ⟨trivial, rfl, by (first | exact hI | simpa using hI)⟩ | exact opDoes_gmove _ (wanted_guard rfl rfl rfl (by simp only [hd]; rfl)) rfl ⟨trivial, rfl, by (first | exact hI | simpa using hI)⟩ | (refine opDoes_move _ rfl rfl ⟨trivial, ?_, by (first | exact hI | simpa using hI)⟩; go_simp; done) | (refine opDoes_gmove _ (wanted_guard rfl rfl rfl (by simp only [hd]; rfl)) rfl ⟨trivial, ?_, by (first | exact hI | simpa using hI)⟩; go_simp; done) | (refine opDoes_assign _ rfl rfl ⟨trivial, ?_, by (first | exact hI | simpa using hI)⟩; go_simp; done))
    case hend =>
      intro D v w4 hI h
      simp only [AllOps, Nat.zero_add, Nat.reduceAdd, and_true] at h
      rw [h.2.2.2.2.2.2.2.2.2.2.2.2.2.2.2.2.2.2.2.2.2.2.2.2]
      have HF := Lib.hid hI.1
      clear h hI
      go_wp2_with fail
      go_ret
      exact ⟨rfl, HF.out⟩
end Go.Proofs.Ytgdlfihiheeniaa
