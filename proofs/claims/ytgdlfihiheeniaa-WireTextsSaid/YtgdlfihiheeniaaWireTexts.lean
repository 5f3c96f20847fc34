/-
  The walk of WireTexts.
-/
import Derived.Test.YtgdlfihiheeniaaWireLives
import Derived.Test.YtgdlfihiheeniaaRegionSt
namespace Go.Proofs.Ytgdlfihiheeniaa
open Go.RowKit

theorem txt_of (s : ByteArray) : ∃ l : List UInt8, Value.string s = txt l ∧ s.size = l.length := ⟨s.data.toList, rfl, rfl⟩
theorem text_length (l : List UInt8) : l.length ≤ (Wire.text l).length ∧ (Wire.text l).length ≤ l.length + 10 ∧ 0 < (Wire.text l).length := by
  have h := Wire.num_length l.length
  unfold Wire.text
  rw [List.length_append]
  omega

set_option maxRecDepth 20000 in
set_option maxHeartbeats 1000000 in
theorem wireTexts_walk (w : World) (s : ByteArray) (_hs : s.size ≤ maxLen) (most : Int) (wf : (Lit.int .i64 most).wf = true) :
    Calls Try.prog 10 #[.string s, .int .i64 most] w fun e w' => e = .returned (.bool true) ∧ Below w.heap.size w w' := by
  obtain ⟨l, hsl, hsz⟩ := txt_of s
  rw [hsl]
  clear hsl hsz
  have hm : -9223372036854775808 ≤ most ∧ most ≤ 9223372036854775807 := by
    simp [Lit.wf, IntKind.min, IntKind.max, IntKind.signed, IntKind.bits] at wf
    exact wf
  clear wf
  unfold txt
  go_enter Try.func10, Try.ntmps10
  go_wp2_with fail
  refine (wlives_any w).mono ?_
  rintro e w1 ⟨rfl, hb1⟩
  by_cases hl : 1000 < l.length
  · go_wp2_with fail
    refine (wlives_any w1).mono ?_
    rintro e w2 ⟨rfl, hb2⟩
    go_wp2_with fail
    go_ret
    exact ⟨rfl, hb1.trans (hb2.mono hb1.size)⟩
  · go_wp2_with fail
    refine (wtext_any w1 l (by omega)).mono ?_
    rintro e w2 ⟨A2, c2, rfl, ho2, hb2⟩
    go_wp2_with fail
    have htl := text_length l
    have hr2 := ho2.row
    have hB2 : Below w.heap.size w w2 := hb1.trans (hb2.mono hb1.size)
    refine (wread_any w2 A2 c2 (Wire.text l) hr2 (by omega)).mono ?_
    rintro e w3 ⟨g, rfl, ho3, hb3⟩
    have hr3 := hr2.below hb3
    have hgw : w.heap.size ≤ g := Nat.le_trans hB2.size ho3.ge
    have hB3 : Below w.heap.size w w3 := hB2.trans (hb3.mono hB2.size)
    have hrd3 := ho3.rd
    have HRT := Lib.hid (fun w => reftext_any w l (by omega))
    have HTT : Hid (Wire.takeText ⟨Wire.text l, 0⟩ most = if most < (l.length : Int) then (⟨Wire.text l, 11⟩, []) else (⟨[], 0⟩, l)) := by
      show _ = _
      have e : Wire.text l = Wire.text l ++ [] := (List.append_nil _).symm
      split
      · rename_i h
        rw [e]
        exact Wire.takeText_many l [] most (by omega) h
      · rename_i h
        rw [e]
        exact Wire.takeText_text l [] most (by omega) (by omega)
    generalize Wire.text l = p at hr2 hr3 hrd3 htl HRT HTT
    clear hb1 hb2 hb3 hB2 ho2 ho3 hr2
    have HB3 := Lib.hid hB3
    have hz3 := hB3.size
    clear hB3
    go_wp2_with fail
    refine (rtext_any w3 g _ most hm.2 hrd3).mono ?_
    rw [HTT.out]
    obtain ⟨⟨r4, t4⟩, h4⟩ : ∃ x : Wire.RS × List UInt8, (if most < (l.length : Int) then (⟨p, 11⟩, []) else (⟨[], 0⟩, l)) = x := ⟨_, rfl⟩
    rw [h4]
    have H4 := Lib.hid h4
    clear h4 HTT
    rintro e w4 hx
    have HB4 := Lib.hid (hx.below HB3.out hz3 hgw)
    have hr4 := did_row hrd3 hr3 hx
    obtain ⟨rfl, hrd4, _⟩ := hx
    have HRD4 := Lib.hid hrd4
    clear hrd3 hr3 HB3 hz3 hrd4
    unfold txt
    go_wp2_with fail
    apply wp_region_st (fun D w' => Below w.heap.size w w' ∧ BRow w' A2 p ∧ RD w' g r4) (fun _ _ => True) (fun i x w => match i with
        | 0 => x = .slice A2 p.length c2
        | 1 => x = txt p
        | 2 => x = txt l
        | 3 => x = txt p
        | 4 => x = .bool false
        | _ => True)
    case hG => (intro v; simp only [regFrame, List.zipIdx_cons, List.zipIdx_nil, List.foldl_cons, List.foldl_nil, Act.put, List.setIfInBounds_toArray, List.set_cons_zero, List.set_cons_succ, Nat.reduceAdd]; rfl)
    case hm => kernel_rfl
    case honce => rfl
    case hlow => kernel_rfl
    case hR => (intro i x w1 w2 _ h; split at h <;> exact h)
    case h0 => exact ⟨HB4.out.drew, hr4.drew, HRD4.out.drew⟩
    case hstep =>
      refine ⟨?_, ?_, ?_, ?_, ?_, trivial⟩ <;> (intro D v w1 hI hf hd hc; simp only [Deps, Region.binds, ↓reduceIte] at hd)
      · (first | exact opDoes_move _ rfl rfl ⟨trivial, rfl, by (first | exact hI | simpa using hI)⟩ | exact opDoes_gmove _ (wanted_guard rfl rfl rfl (by simp only [hd]; rfl)) rfl ⟨trivial, rfl, by (first | exact hI | simpa using hI)⟩ | (refine opDoes_move _ rfl rfl ⟨trivial, ?_, by (first | exact hI | simpa using hI)⟩; go_simp; done) | (refine opDoes_gmove _ (wanted_guard rfl rfl rfl (by simp only [hd]; rfl)) rfl ⟨trivial, ?_, by (first | exact hI | simpa using hI)⟩; go_simp; done) | (refine opDoes_assign _ rfl rfl ⟨trivial, ?_, by (first | exact hI | simpa using hI)⟩; go_simp; done))
      · have hcv := run_string_bytes w1 c2 hI.2.1
        (first | (refine opDoes_run (x := (txt p)) rfl ?_ ⟨trivial, rfl, by (first | exact hI | simpa using hI)⟩; go_simp; done) | (refine opDoes_grun (x := (txt p)) (wanted_guard rfl rfl rfl (by simp only [hd]; rfl)) ?_ ⟨trivial, rfl, by (first | exact hI | simpa using hI)⟩; go_simp; done))
      · (first | exact opDoes_move _ rfl rfl ⟨trivial, rfl, by (first | exact hI | simpa using hI)⟩ | exact opDoes_gmove _ (wanted_guard rfl rfl rfl (by simp only [hd]; rfl)) rfl ⟨trivial, rfl, by (first | exact hI | simpa using hI)⟩ | (refine opDoes_move _ rfl rfl ⟨trivial, ?_, by (first | exact hI | simpa using hI)⟩; go_simp; done) | (refine opDoes_gmove _ (wanted_guard rfl rfl rfl (by simp only [hd]; rfl)) rfl ⟨trivial, ?_, by (first | exact hI | simpa using hI)⟩; go_simp; done) | (refine opDoes_assign _ rfl rfl ⟨trivial, ?_, by (first | exact hI | simpa using hI)⟩; go_simp; done))
      · refine opDoes_call _ _ _ #[txt l] rfl rfl (by go_simp) (Try.call31 _ _) ?_
        exact (HRT.out w1).mono fun e w2 ⟨he, hb⟩ => ⟨_, he, trivial, rfl, hI.1.trans (hb.mono hI.1.size), hI.2.1.below hb, hI.2.2.below hb⟩
      · unfold txt at hd
        (first | (refine opDoes_run (x := (.bool false)) rfl ?_ ⟨trivial, rfl, by (first | exact hI | simpa using hI)⟩; go_simp; done) | (refine opDoes_grun (x := (.bool false)) (wanted_guard rfl rfl rfl (by simp only [hd]; rfl)) ?_ ⟨trivial, rfl, by (first | exact hI | simpa using hI)⟩; go_simp; done))
    case hend =>
      intro D v w5 hI h
      simp only [AllOps, Nat.zero_add, Nat.reduceAdd, and_true] at h
      rw [h.2.2.2.2.2]
      have HF := Lib.hid hI.1
      have HRD := Lib.hid hI.2.2
      clear h hI hr4
      by_cases hml : most < (l.length : Int)
      · obtain ⟨rfl, rfl⟩ := Prod.ext_iff.1 ((if_pos hml).symm.trans H4.out)
        go_wp2_with fail
        refine (rerr_any w5 g _ HRD.out).mono ?_
        rintro e w6 ⟨rfl, rfl⟩
        go_wp2_with fail
        refine (rleft_any w5 g _ HRD.out).mono ?_
        rintro e w6 ⟨rfl, rfl⟩
        go_wp2_with fail
        go_ret
        exact ⟨rfl, HF.out⟩
      · obtain ⟨rfl, rfl⟩ := Prod.ext_iff.1 ((if_neg hml).symm.trans H4.out)
        go_wp2_with fail
        refine (rend_any w5 g _ HRD.out).mono ?_
        rw [show Wire.fin ⟨[], 0⟩ = ⟨[], 0⟩ from rfl]
        intro e w6 hx
        have HB6 := Lib.hid (hx.below HF.out HF.out.size hgw)
        obtain ⟨rfl, _, _⟩ := hx
        go_wp2_with fail
        go_ret
        exact ⟨rfl, HB6.out⟩
end Go.Proofs.Ytgdlfihiheeniaa
