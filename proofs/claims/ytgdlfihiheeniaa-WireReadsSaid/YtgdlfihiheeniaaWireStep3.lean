/-
  The contract of dowserlaw01.step: the last kinds, and all of them.
-/
import Derived.Test.YtgdlfihiheeniaaWireStep2
namespace Go.Proofs.Ytgdlfihiheeniaa
open Go.RowKit

set_option maxRecDepth 20000 in
set_option maxHeartbeats 1000000 in
theorem step5_any (w : World) (g : Nat) (r : Wire.RS) (k m : Int) (hrd : RD w g r) (hl : r.l.length ≤ 1000000) (hk : (IntKind.u64.wrap k).tmod 7 = 5) :
    Calls Try.prog 33 #[.pointer (some ⟨g, 0, none⟩), rv r, opv k m] w (Stepped w g (Wire.turn 5 m r)) := by
  have hgl := hrd.lt
  have HRD := Lib.hid hrd
  have HT : Hid (Wire.turn 5 m r = Wire.fin r) := rfl
  have HC := Lib.hid (fun w => refend_any w r hl)
  have HM := Lib.hid (fun w h => rend_any w g r h)
  clear hrd
  obtain ⟨⟨l1, e1⟩, hx⟩ : ∃ x, Wire.fin r = x := ⟨_, rfl⟩
  rw [hx] at HC HM HT
  clear hx
  unfold rv txt at HC
  unfold rv txt opv
  go_enter Try.func33, Try.ntmps33
  go_wp2_with fail
  refine (HC.out _).mono ?_
  rintro e wA ⟨rfl, hb⟩
  obtain ⟨b0, b1, b2, hz, hB⟩ := three_cells hb
  clear hb
  have HRD1 := Lib.hid (HRD.out.below hB)
  have HG1 : Hid (w.grownBy wA (some g)) := ⟨hB.os, hB.tape, hB.output, hB.size, fun k hk _ => hB.block k hk⟩
  have hz1 : w.heap.size + 1 + 1 < wA.heap.size := by omega
  have hz2 : w.heap.size + 1 < wA.heap.size := by omega
  have hz3 : w.heap.size < wA.heap.size := by omega
  have c20 := cell_of_row wA _ 0 _ _ _ b2
  have c21 := cell_of_row wA _ 1 _ _ _ b2
  have B1 := Lib.hid b1
  have B2 := Lib.hid b2
  clear hB b0 b1 b2
  go_wp2_with fail
  apply wp_region_st (fun D w' => Mid w g wA.heap.size (if D 2 then ⟨l1, e1⟩ else r) l1 e1 k m (if D 6 then #[.string ⟨l1.toArray⟩, .int .i64 e1] else #[.string ⟨#[]⟩, .int .i64 0]) w') (fun _ _ => True) (fun i x _ => match i with
    | 0 => x = .agg #[.string ⟨l1.toArray⟩, .int .i64 e1]
    | 1 => x = .pointer (some ⟨g, 0, none⟩)
    | 2 => x = .int .i64 e1
    | 3 => x = .pointer (some ⟨wA.heap.size, 1, none⟩)
    | 4 => x = .int .i64 e1
    | 5 => x = .bool true
    | 7 => x = .bool true
    | _ => True)
  case hG => (intro v; simp only [regFrame, List.zipIdx_cons, List.zipIdx_nil, List.foldl_cons, List.foldl_nil, Act.put, List.setIfInBounds_toArray, List.set_cons_zero, List.set_cons_succ, Nat.reduceAdd]; rfl)
  case hm => kernel_rfl
  case honce => rfl
  case hlow => kernel_rfl
  case hR => (intro i x w1 w2 _ h; split at h <;> exact h)
  case h0 => simpa using step_start (l1 := l1) (e1 := e1) hgl hz1 HG1.out HRD1.out B1.out B2.out
  case hstep =>
    refine ⟨?_, ?_, ?_, ?_, ?_, ?_, ?_, ?_, trivial⟩ <;> (intro D v w1 hI hf hd hc; simp only [Deps, Region.binds, ↓reduceIte] at hd)
    · have c0 := cell_of_row w1 _ 0 _ _ _ hI.2.2.2.1
      have c1 := cell_of_row w1 _ 1 _ _ _ hI.2.2.2.1
      (first | (refine opDoes_run (x := (.agg #[.string ⟨l1.toArray⟩, .int .i64 e1])) rfl ?_ ⟨(by first | trivial | exact fun _ _ h => h | exact Below.refl _ _), rfl, by (first | exact hI | simpa using hI)⟩; go_simp; done) | (refine opDoes_grun (x := (.agg #[.string ⟨l1.toArray⟩, .int .i64 e1])) (wanted_guard rfl rfl rfl (by simp only [hd]; rfl)) ?_ ⟨(by first | trivial | exact fun _ _ h => h | exact Below.refl _ _), rfl, by (first | exact hI | simpa using hI)⟩; go_simp; done))
    · (first | exact opDoes_move _ rfl rfl ⟨(by first | trivial | exact fun _ _ h => h | exact Below.refl _ _), rfl, by (first | exact hI | simpa using hI)⟩ | exact opDoes_gmove _ (wanted_guard rfl rfl rfl (by simp only [hd]; rfl)) rfl ⟨(by first | trivial | exact fun _ _ h => h | exact Below.refl _ _), rfl, by (first | exact hI | simpa using hI)⟩ | (refine opDoes_move _ rfl rfl ⟨(by first | trivial | exact fun _ _ h => h | exact Below.refl _ _), ?_, by (first | exact hI | simpa using hI)⟩; go_simp; done) | (refine opDoes_gmove _ (wanted_guard rfl rfl rfl (by simp only [hd]; rfl)) rfl ⟨(by first | trivial | exact fun _ _ h => h | exact Below.refl _ _), ?_, by (first | exact hI | simpa using hI)⟩; go_simp; done) | (refine opDoes_assign _ rfl rfl ⟨(by first | trivial | exact fun _ _ h => h | exact Below.refl _ _), ?_, by (first | exact hI | simpa using hI)⟩; go_simp; done))
    · refine opDoes_call _ _ _ #[.pointer (some ⟨g, 0, none⟩)] rfl rfl (by go_simp) (Try.call32 _ _) ?_
      rw [hf] at hI
      simp only [Bool.false_eq_true, if_false] at hI
      exact (HM.out w1 hI.2.1).mono fun e w2 hx => ⟨_, hx.1, trivial, rfl, by simpa using step_call hgl hz3 hI hx⟩
    · have c1 := cell_of_row w1 _ 1 _ _ _ hI.2.2.2.1
      (first | (refine opDoes_run (x := (.pointer (some ⟨wA.heap.size, 1, none⟩))) rfl ?_ ⟨(by first | trivial | exact fun _ _ h => h | exact Below.refl _ _), rfl, by (first | exact hI | simpa using hI)⟩; go_simp; done) | (refine opDoes_grun (x := (.pointer (some ⟨wA.heap.size, 1, none⟩))) (wanted_guard rfl rfl rfl (by simp only [hd]; rfl)) ?_ ⟨(by first | trivial | exact fun _ _ h => h | exact Below.refl _ _), rfl, by (first | exact hI | simpa using hI)⟩; go_simp; done))
    · have c1 := cell_of_row w1 _ 1 _ _ _ hI.2.2.2.1
      (first | (refine opDoes_run (x := (.int .i64 e1)) rfl ?_ ⟨(by first | trivial | exact fun _ _ h => h | exact Below.refl _ _), rfl, by (first | exact hI | simpa using hI)⟩; go_simp; done) | (refine opDoes_grun (x := (.int .i64 e1)) (wanted_guard rfl rfl rfl (by simp only [hd]; rfl)) ?_ ⟨(by first | trivial | exact fun _ _ h => h | exact Below.refl _ _), rfl, by (first | exact hI | simpa using hI)⟩; go_simp; done))
    · (first | (refine opDoes_run (x := (.bool true)) rfl ?_ ⟨(by first | trivial | exact fun _ _ h => h | exact Below.refl _ _), rfl, by (first | exact hI | simpa using hI)⟩; go_simp; done) | (refine opDoes_grun (x := (.bool true)) (wanted_guard rfl rfl rfl (by simp only [hd]; rfl)) ?_ ⟨(by first | trivial | exact fun _ _ h => h | exact Below.refl _ _), rfl, by (first | exact hI | simpa using hI)⟩; go_simp; done))
    · rw [hf] at hI
      simp only [Bool.false_eq_true, if_false] at hI
      have c0 := cell_of_row w1 _ 0 _ _ _ hI.2.2.1
      have c1 := cell_of_row w1 _ 1 _ _ _ hI.2.2.1
      have f0 := frozen_of_row w1 _ 0 _ _ hI.2.2.1
      have f1 := frozen_of_row w1 _ 1 _ _ hI.2.2.1
      simp at c0 c1
      have hst := step_store hgl hz1 ⟨l1.toArray⟩ e1 hI
      have HST := Lib.hid hst
      clear hst hI
      refine opDoes_skip rfl (w' := (w1.setCell ⟨w.heap.size + 1 + 1, 0, none⟩ (.string ⟨l1.toArray⟩)).setCell ⟨w.heap.size + 1 + 1, 1, none⟩ (.int .i64 e1)) ?_ ⟨trivial, trivial, by simpa using HST.out⟩
      go_simp
    · (first | exact opDoes_move _ rfl rfl ⟨(by first | trivial | exact fun _ _ h => h | exact Below.refl _ _), rfl, by (first | exact hI | simpa using hI)⟩ | exact opDoes_gmove _ (wanted_guard rfl rfl rfl (by simp only [hd]; rfl)) rfl ⟨(by first | trivial | exact fun _ _ h => h | exact Below.refl _ _), rfl, by (first | exact hI | simpa using hI)⟩ | (refine opDoes_move _ rfl rfl ⟨(by first | trivial | exact fun _ _ h => h | exact Below.refl _ _), ?_, by (first | exact hI | simpa using hI)⟩; go_simp; done) | (refine opDoes_gmove _ (wanted_guard rfl rfl rfl (by simp only [hd]; rfl)) rfl ⟨(by first | trivial | exact fun _ _ h => h | exact Below.refl _ _), ?_, by (first | exact hI | simpa using hI)⟩; go_simp; done) | (refine opDoes_assign _ rfl rfl ⟨(by first | trivial | exact fun _ _ h => h | exact Below.refl _ _), ?_, by (first | exact hI | simpa using hI)⟩; go_simp; done))
  case hend =>
    intro D v w4 hI h
    simp only [AllOps, Nat.zero_add, Nat.reduceAdd, and_true] at h
    have hv : v 7 = .bool true := h.2.2.2.2.2.2.2.2
    have hD1 : D 2 = true := h.2.2.1.1
    have hD2 : D 6 = true := h.2.2.2.2.2.2.1
    rw [hv]
    clear h
    simp only [hD1, hD2, if_true] at hI
    have c0 := cell_of_row w4 _ 0 _ _ _ hI.2.2.1
    have c1 := cell_of_row w4 _ 1 _ _ _ hI.2.2.1
    have HF := Lib.hid hI
    clear hI
    go_wp2_with fail
    refine ret_rv2 rfl rfl rfl rfl (by go_simp; all_goals rfl) (by go_simp; all_goals rfl) ?_
    exact ⟨by rw [HT.out]; rfl, by rw [HT.out]; exact HF.out.2.1, HF.out.1⟩

set_option maxRecDepth 20000 in
set_option maxHeartbeats 1000000 in
theorem step6_any (w : World) (g : Nat) (r : Wire.RS) (k m : Int) (hrd : RD w g r) (hk : (IntKind.u64.wrap k).tmod 7 = 6) :
    Calls Try.prog 33 #[.pointer (some ⟨g, 0, none⟩), rv r, opv k m] w (Stepped w g (Wire.turn 6 m r)) := by
  have hgl := hrd.lt
  have HRD := Lib.hid hrd
  have HT : Hid (Wire.turn 6 m r = Wire.fail r 8) := rfl
  have HM := Lib.hid (fun w h => rFail_any w g r 8 h)
  clear hrd
  by_cases he : r.e = 0
  · have HF : Hid (Wire.fail r 8 = ⟨r.l, 8⟩) := by show _ = _; unfold Wire.fail; rw [if_pos he]
    have heb : (r.e == 0) = true := by simpa using he
    have HE := Lib.hid he
    clear he
    unfold rv txt opv
    go_enter Try.func33, Try.ntmps33
    go_wp2_with fail
    obtain ⟨b0, b1, b2, hz, hB⟩ := three_cells (Below.refl _ (((w.alloc (.cells #[.string ⟨r.l.toArray⟩, .int .i64 8] 55)).alloc (.cells #[.int .i64 k, .int .i64 m] 57)).alloc (.cells #[.string ⟨#[]⟩, .int .i64 0] 55)))
    refine (HM.out _ (HRD.out.below hB)).mono ?_
    rintro e wB ⟨rfl, hrd, hgr⟩
    have hb0 := (hgr.block _ (by omega) (by simp; omega)).trans b0
    have hb2 := (hgr.block _ (by omega) (by simp; omega)).trans b2
    have hg2 := grown_trans (grown_below (World.grownBy.refl w (some g)) hB) hgr
    have c00 := cell_of_row wB _ 0 _ _ _ hb0
    have c01 := cell_of_row wB _ 1 _ _ _ hb0
    have c20 := cell_of_row wB _ 0 _ _ _ hb2
    have c21 := cell_of_row wB _ 1 _ _ _ hb2
    have f0 := frozen_of_row wB _ 0 _ _ hb2
    have f1 := frozen_of_row wB _ 1 _ _ hb2
    have hsz : w.heap.size + 1 + 1 < wB.heap.size := (Array.getElem?_eq_some_iff.1 hb2).1
    simp at c00 c01 c20 c21
    have h0 : Mid w g w.heap.size (Wire.fail r 8) r.l 8 k m #[.string ⟨#[]⟩, .int .i64 0] wB := ⟨hg2, hrd, hb2, hb0, (hgr.block _ (by omega) (by simp; omega)).trans b1⟩
    have hst := rd_store (i := 0) hrd hb2 (by omega) (.string ⟨r.l.toArray⟩)
    have e1 := set_heap hb2 0 (.string ⟨r.l.toArray⟩)
    simp at e1
    have hst2 := rd_store (i := 1) hst e1 (by omega) (.int .i64 8)
    have hgr2 := grown_set (grown_set hg2 ⟨w.heap.size + 1 + 1, 0, none⟩ (by show w.heap.size ≤ w.heap.size + 1 + 1; omega) (.string ⟨r.l.toArray⟩)) ⟨w.heap.size + 1 + 1, 1, none⟩ (by show w.heap.size ≤ w.heap.size + 1 + 1; omega) (.int .i64 8)
    have HST := Lib.hid hst2
    have HGR := Lib.hid hgr2
    clear b0 b1 b2 hz hB hb0 hb2 hg2 hrd hgr h0 hst e1 hst2 hgr2
    go_wp2_with fail
    refine ret_rv2 rfl rfl rfl rfl (by go_simp; all_goals rfl) (by go_simp; all_goals rfl) ?_
    exact ⟨by rw [HT.out, HF.out]; rfl, by rw [HT.out]; exact HST.out, HGR.out⟩
  · have HF : Hid (Wire.fail r 8 = r) := by show _ = _; unfold Wire.fail; rw [if_neg he]
    have heb : (r.e == 0) = false := by simpa using he
    have HE := Lib.hid he
    clear he
    unfold rv txt opv
    go_enter Try.func33, Try.ntmps33
    go_wp2_with fail
    obtain ⟨b0, b1, b2, hz, hB⟩ := three_cells (Below.refl _ (((w.alloc (.cells #[.string ⟨r.l.toArray⟩, .int .i64 r.e] 55)).alloc (.cells #[.int .i64 k, .int .i64 m] 57)).alloc (.cells #[.string ⟨#[]⟩, .int .i64 0] 55)))
    refine (HM.out _ (HRD.out.below hB)).mono ?_
    rintro e wB ⟨rfl, hrd, hgr⟩
    have hb0 := (hgr.block _ (by omega) (by simp; omega)).trans b0
    have hb2 := (hgr.block _ (by omega) (by simp; omega)).trans b2
    have hg2 := grown_trans (grown_below (World.grownBy.refl w (some g)) hB) hgr
    have c00 := cell_of_row wB _ 0 _ _ _ hb0
    have c01 := cell_of_row wB _ 1 _ _ _ hb0
    have c20 := cell_of_row wB _ 0 _ _ _ hb2
    have c21 := cell_of_row wB _ 1 _ _ _ hb2
    have f0 := frozen_of_row wB _ 0 _ _ hb2
    have f1 := frozen_of_row wB _ 1 _ _ hb2
    have hsz : w.heap.size + 1 + 1 < wB.heap.size := (Array.getElem?_eq_some_iff.1 hb2).1
    simp at c00 c01 c20 c21
    have h0 : Mid w g w.heap.size (Wire.fail r 8) r.l r.e k m #[.string ⟨#[]⟩, .int .i64 0] wB := ⟨hg2, hrd, hb2, hb0, (hgr.block _ (by omega) (by simp; omega)).trans b1⟩
    have hst := rd_store (i := 0) hrd hb2 (by omega) (.string ⟨r.l.toArray⟩)
    have e1 := set_heap hb2 0 (.string ⟨r.l.toArray⟩)
    simp at e1
    have hst2 := rd_store (i := 1) hst e1 (by omega) (.int .i64 r.e)
    have hgr2 := grown_set (grown_set hg2 ⟨w.heap.size + 1 + 1, 0, none⟩ (by show w.heap.size ≤ w.heap.size + 1 + 1; omega) (.string ⟨r.l.toArray⟩)) ⟨w.heap.size + 1 + 1, 1, none⟩ (by show w.heap.size ≤ w.heap.size + 1 + 1; omega) (.int .i64 r.e)
    have HST := Lib.hid hst2
    have HGR := Lib.hid hgr2
    clear b0 b1 b2 hz hB hb0 hb2 hg2 hrd hgr h0 hst e1 hst2 hgr2
    go_wp2_with fail
    refine ret_rv2 rfl rfl rfl rfl (by go_simp; all_goals rfl) (by go_simp; all_goals rfl) ?_
    exact ⟨by rw [HT.out, HF.out]; rfl, by rw [HT.out]; exact HST.out, HGR.out⟩

theorem u64_rem (k : Int) : (IntKind.u64.wrap k).tmod 7 = IntKind.u64.wrap k % 7 := by
  rw [IntKind.wrap_u64]
  exact Int.tmod_eq_emod_of_nonneg (by omega)
/-- Which of the seven things. -/
def Wire.kind (k : Int) : Nat := (IntKind.u64.wrap k % 7).toNat
theorem step_any (w : World) (g : Nat) (r : Wire.RS) (k m : Int) (hm : m ≤ 9223372036854775807) (hrd : RD w g r) (hl : r.l.length ≤ 1000000) :
    Calls Try.prog 33 #[.pointer (some ⟨g, 0, none⟩), rv r, opv k m] w (Stepped w g (Wire.turn (Wire.kind k) m r)) := by
  have hr := u64_rem k
  have h1 : 0 ≤ IntKind.u64.wrap k % 7 ∧ IntKind.u64.wrap k % 7 < 7 := by omega
  have hk : (IntKind.u64.wrap k).tmod 7 = (Wire.kind k : Nat) := by unfold Wire.kind; omega
  have hlt : Wire.kind k < 7 := by unfold Wire.kind; omega
  match hj : Wire.kind k with
  | 0 => exact step0_any w g r k m hm hrd hl (by rw [hk, hj]; rfl)
  | 1 => exact step1_any w g r k m hm hrd hl (by rw [hk, hj]; rfl)
  | 2 => exact step2_any w g r k m hm hrd hl (by rw [hk, hj]; rfl)
  | 3 => exact step3_any w g r k m hm hrd hl (by rw [hk, hj]; rfl)
  | 4 => exact step4_any w g r k m hm hrd hl (by rw [hk, hj]; rfl)
  | 5 => exact step5_any w g r k m hrd hl (by rw [hk, hj]; rfl)
  | 6 => exact step6_any w g r k m hrd (by rw [hk, hj]; rfl)
  | n + 7 => omega
theorem count_len (r : Wire.RS) (m : Int) : (Wire.count r m).1.l.length ≤ r.l.length := by
  have := Wire.take_len r
  unfold Wire.count
  split
  · exact this
  · split
    · exact Nat.le_refl _
    · exact this
theorem turn_len (j : Nat) (m : Int) (r : Wire.RS) : (Wire.turn j m r).l.length ≤ r.l.length := by
  unfold Wire.turn
  split
  · exact Wire.take_len r
  · exact Wire.take_len r
  · exact count_len r m
  · have := count_len r m
    unfold Wire.takeText
    split
    · exact this
    · split
      · exact Nat.le_refl _
      · simp only [List.length_drop]; omega
  · unfold Wire.takeBool
    split
    · exact Nat.le_refl _
    · split
      · simp
      · rename_i h
        split
        · rw [h]; exact Nat.le_refl _
        · rw [h]; simp
  · unfold Wire.fin
    split <;> exact Nat.le_refl _
  · unfold Wire.fail
    split <;> exact Nat.le_refl _
end Go.Proofs.Ytgdlfihiheeniaa
