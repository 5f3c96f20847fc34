/-
  The contract of dowserlaw01.step, kind by kind.
-/
import Derived.Test.YtgdlfihiheeniaaWireStep
namespace Go.Proofs.Ytgdlfihiheeniaa
open Go.RowKit


set_option maxRecDepth 20000 in
set_option maxHeartbeats 1000000 in
theorem step0_any (w : World) (g : Nat) (r : Wire.RS) (k m : Int) (_hm : m ≤ 9223372036854775807) (hrd : RD w g r) (hl : r.l.length ≤ 1000000) (hk : (IntKind.u64.wrap k).tmod 7 = 0) :
    Calls Try.prog 33 #[.pointer (some ⟨g, 0, none⟩), rv r, opv k m] w (Stepped w g (Wire.turn 0 m r)) := by
  have hgl := hrd.lt
  have HRD := Lib.hid hrd
  have HT : Hid (Wire.turn 0 m r = (Wire.take r).1) := rfl
  have HC := Lib.hid (fun w => reftake_any w r hl)
  have HM := Lib.hid (fun w h => rnum_any w g r h)
  clear hrd
  obtain ⟨⟨⟨l1, e1⟩, n⟩, hx⟩ : ∃ x, Wire.take r = x := ⟨_, rfl⟩
  rw [hx] at HC HM HT
  clear hx
  simp only at HT
  unfold rv txt at HC
  unfold rv txt opv
  go_enter Try.func33, Try.ntmps33
  go_wp2_with fail
  refine (HC.out _).mono ?_
  rintro e wA ⟨rfl, hb⟩
  obtain ⟨b0, b1, b2, hz, hB⟩ := three_cells hb
  clear hb
  have HRD1 := Lib.hid (HRD.out.below hB)
  have HG1 : Hid (w.grownBy wA (some g)) := ⟨hB.os, hB.tape, hB.output, hB.size, fun k hk _ => hB.block k hk⟩
  have hz1 : w.heap.size + 1 + 1 < wA.heap.size := by omega
  have hz2 : w.heap.size + 1 < wA.heap.size := by omega
  have hz3 : w.heap.size < wA.heap.size := by omega
  have c10 := cell_of_row wA _ 0 _ _ _ b1
  have c11 := cell_of_row wA _ 1 _ _ _ b1
  have c20 := cell_of_row wA _ 0 _ _ _ b2
  have c21 := cell_of_row wA _ 1 _ _ _ b2
  have c00 := cell_of_row wA _ 0 _ _ _ b0
  have c01 := cell_of_row wA _ 1 _ _ _ b0
  have B1 := Lib.hid b1
  have B2 := Lib.hid b2
  clear hB b0 b1 b2
  go_wp2_with fail
  apply wp_region_st (fun D w' => Mid w g wA.heap.size (if D 2 then ⟨l1, e1⟩ else r) l1 e1 k m (if D 5 then #[.string ⟨l1.toArray⟩, .int .i64 e1] else #[.string ⟨#[]⟩, .int .i64 0]) w') (fun _ _ => True) (fun i x _ => match i with
    | 0 => x = .agg #[.string ⟨l1.toArray⟩, .int .i64 e1]
    | 1 => x = .pointer (some ⟨g, 0, none⟩)
    | 2 => x = .int .u64 (n : Nat)
    | 3 => x = .int .u64 (n : Nat)
    | 4 => x = .bool true
    | 6 => x = .bool true
    | _ => True)
  case hG => (intro v; simp only [regFrame, List.zipIdx_cons, List.zipIdx_nil, List.foldl_cons, List.foldl_nil, Act.put, List.setIfInBounds_toArray, List.set_cons_zero, List.set_cons_succ, Nat.reduceAdd]; rfl)
  case hm => kernel_rfl
  case honce => rfl
  case hlow => kernel_rfl
  case hR => (intro i x w1 w2 _ h; split at h <;> exact h)
  case h0 => simpa using step_start (l1 := l1) (e1 := e1) hgl hz1 HG1.out HRD1.out B1.out B2.out
  case hstep =>
    refine ⟨?_, ?_, ?_, ?_, ?_, ?_, ?_, trivial⟩ <;> (intro D v w1 hI hf hd hc; simp only [Deps, Region.binds, ↓reduceIte] at hd)
    · have c0 := cell_of_row w1 _ 0 _ _ _ hI.2.2.2.1
      have c1 := cell_of_row w1 _ 1 _ _ _ hI.2.2.2.1
      (first | (refine opDoes_run (x := (.agg #[.string ⟨l1.toArray⟩, .int .i64 e1])) rfl ?_ ⟨(by first | trivial | exact fun _ _ h => h | exact Below.refl _ _), rfl, by (first | exact hI | simpa using hI)⟩; go_simp; done) | (refine opDoes_grun (x := (.agg #[.string ⟨l1.toArray⟩, .int .i64 e1])) (wanted_guard rfl rfl rfl (by simp only [hd]; rfl)) ?_ ⟨(by first | trivial | exact fun _ _ h => h | exact Below.refl _ _), rfl, by (first | exact hI | simpa using hI)⟩; go_simp; done))
    · (first | exact opDoes_move _ rfl rfl ⟨(by first | trivial | exact fun _ _ h => h | exact Below.refl _ _), rfl, by (first | exact hI | simpa using hI)⟩ | exact opDoes_gmove _ (wanted_guard rfl rfl rfl (by simp only [hd]; rfl)) rfl ⟨(by first | trivial | exact fun _ _ h => h | exact Below.refl _ _), rfl, by (first | exact hI | simpa using hI)⟩ | (refine opDoes_move _ rfl rfl ⟨(by first | trivial | exact fun _ _ h => h | exact Below.refl _ _), ?_, by (first | exact hI | simpa using hI)⟩; go_simp; done) | (refine opDoes_gmove _ (wanted_guard rfl rfl rfl (by simp only [hd]; rfl)) rfl ⟨(by first | trivial | exact fun _ _ h => h | exact Below.refl _ _), ?_, by (first | exact hI | simpa using hI)⟩; go_simp; done) | (refine opDoes_assign _ rfl rfl ⟨(by first | trivial | exact fun _ _ h => h | exact Below.refl _ _), ?_, by (first | exact hI | simpa using hI)⟩; go_simp; done))
    · refine opDoes_call _ _ _ #[.pointer (some ⟨g, 0, none⟩)] rfl rfl (by go_simp) (Try.call26 _ _) ?_
      rw [hf] at hI
      simp only [Bool.false_eq_true, if_false] at hI
      exact (HM.out w1 hI.2.1).mono fun e w2 hx => ⟨_, hx.1, trivial, rfl, by simpa using step_call hgl hz3 hI hx⟩
    · (first | exact opDoes_move _ rfl rfl ⟨(by first | trivial | exact fun _ _ h => h | exact Below.refl _ _), rfl, by (first | exact hI | simpa using hI)⟩ | exact opDoes_gmove _ (wanted_guard rfl rfl rfl (by simp only [hd]; rfl)) rfl ⟨(by first | trivial | exact fun _ _ h => h | exact Below.refl _ _), rfl, by (first | exact hI | simpa using hI)⟩ | (refine opDoes_move _ rfl rfl ⟨(by first | trivial | exact fun _ _ h => h | exact Below.refl _ _), ?_, by (first | exact hI | simpa using hI)⟩; go_simp; done) | (refine opDoes_gmove _ (wanted_guard rfl rfl rfl (by simp only [hd]; rfl)) rfl ⟨(by first | trivial | exact fun _ _ h => h | exact Below.refl _ _), ?_, by (first | exact hI | simpa using hI)⟩; go_simp; done) | (refine opDoes_assign _ rfl rfl ⟨(by first | trivial | exact fun _ _ h => h | exact Below.refl _ _), ?_, by (first | exact hI | simpa using hI)⟩; go_simp; done))
    · skip
      (first | (refine opDoes_run (x := (.bool true)) rfl ?_ ⟨(by first | trivial | exact fun _ _ h => h | exact Below.refl _ _), rfl, by (first | exact hI | simpa using hI)⟩; go_simp; done) | (refine opDoes_grun (x := (.bool true)) (wanted_guard rfl rfl rfl (by simp only [hd]; rfl)) ?_ ⟨(by first | trivial | exact fun _ _ h => h | exact Below.refl _ _), rfl, by (first | exact hI | simpa using hI)⟩; go_simp; done))
    · rw [hf] at hI
      simp only [Bool.false_eq_true, if_false] at hI
      have c0 := cell_of_row w1 _ 0 _ _ _ hI.2.2.1
      have c1 := cell_of_row w1 _ 1 _ _ _ hI.2.2.1
      have f0 := frozen_of_row w1 _ 0 _ _ hI.2.2.1
      have f1 := frozen_of_row w1 _ 1 _ _ hI.2.2.1
      simp at c0 c1
      have hst := step_store hgl hz1 ⟨l1.toArray⟩ e1 hI
      have HST := Lib.hid hst
      clear hst hI
      refine opDoes_skip rfl (w' := (w1.setCell ⟨w.heap.size + 1 + 1, 0, none⟩ (.string ⟨l1.toArray⟩)).setCell ⟨w.heap.size + 1 + 1, 1, none⟩ (.int .i64 e1)) ?_ ⟨trivial, trivial, by simpa using HST.out⟩
      go_simp
    · (first | exact opDoes_move _ rfl rfl ⟨(by first | trivial | exact fun _ _ h => h | exact Below.refl _ _), rfl, by (first | exact hI | simpa using hI)⟩ | exact opDoes_gmove _ (wanted_guard rfl rfl rfl (by simp only [hd]; rfl)) rfl ⟨(by first | trivial | exact fun _ _ h => h | exact Below.refl _ _), rfl, by (first | exact hI | simpa using hI)⟩ | (refine opDoes_move _ rfl rfl ⟨(by first | trivial | exact fun _ _ h => h | exact Below.refl _ _), ?_, by (first | exact hI | simpa using hI)⟩; go_simp; done) | (refine opDoes_gmove _ (wanted_guard rfl rfl rfl (by simp only [hd]; rfl)) rfl ⟨(by first | trivial | exact fun _ _ h => h | exact Below.refl _ _), ?_, by (first | exact hI | simpa using hI)⟩; go_simp; done) | (refine opDoes_assign _ rfl rfl ⟨(by first | trivial | exact fun _ _ h => h | exact Below.refl _ _), ?_, by (first | exact hI | simpa using hI)⟩; go_simp; done))
  case hend =>
    intro D v w4 hI h
    simp only [AllOps, Nat.zero_add, Nat.reduceAdd, and_true] at h
    have hv : v 6 = .bool true := h.2.2.2.2.2.2.2
    have hD1 : D 2 = true := h.2.2.1.1
    have hD2 : D 5 = true := h.2.2.2.2.2.1
    rw [hv]
    clear h
    simp only [hD1, hD2, if_true] at hI
    have c0 := cell_of_row w4 _ 0 _ _ _ hI.2.2.1
    have c1 := cell_of_row w4 _ 1 _ _ _ hI.2.2.1
    have HF := Lib.hid hI
    clear hI
    go_wp2_with fail
    refine ret_rv2 rfl rfl rfl rfl (by go_simp; all_goals rfl) (by go_simp; all_goals rfl) ?_
    exact ⟨by rw [HT.out]; rfl, by rw [HT.out]; exact HF.out.2.1, HF.out.1⟩


set_option maxRecDepth 20000 in
set_option maxHeartbeats 1000000 in
theorem step1_any (w : World) (g : Nat) (r : Wire.RS) (k m : Int) (_hm : m ≤ 9223372036854775807) (hrd : RD w g r) (hl : r.l.length ≤ 1000000) (hk : (IntKind.u64.wrap k).tmod 7 = 1) :
    Calls Try.prog 33 #[.pointer (some ⟨g, 0, none⟩), rv r, opv k m] w (Stepped w g (Wire.turn 1 m r)) := by
  have hgl := hrd.lt
  have HRD := Lib.hid hrd
  have HT : Hid (Wire.turn 1 m r = (Wire.takeInt r).1) := rfl
  have HC := Lib.hid (fun w => reftakeint_any w r hl)
  have HM := Lib.hid (fun w h => rint_any w g r h)
  clear hrd
  obtain ⟨⟨⟨l1, e1⟩, n⟩, hx⟩ : ∃ x, Wire.takeInt r = x := ⟨_, rfl⟩
  rw [hx] at HC HM HT
  clear hx
  simp only at HT
  unfold rv txt at HC
  unfold rv txt opv
  go_enter Try.func33, Try.ntmps33
  go_wp2_with fail
  refine (HC.out _).mono ?_
  rintro e wA ⟨rfl, hb⟩
  obtain ⟨b0, b1, b2, hz, hB⟩ := three_cells hb
  clear hb
  have HRD1 := Lib.hid (HRD.out.below hB)
  have HG1 : Hid (w.grownBy wA (some g)) := ⟨hB.os, hB.tape, hB.output, hB.size, fun k hk _ => hB.block k hk⟩
  have hz1 : w.heap.size + 1 + 1 < wA.heap.size := by omega
  have hz2 : w.heap.size + 1 < wA.heap.size := by omega
  have hz3 : w.heap.size < wA.heap.size := by omega
  have c10 := cell_of_row wA _ 0 _ _ _ b1
  have c11 := cell_of_row wA _ 1 _ _ _ b1
  have c20 := cell_of_row wA _ 0 _ _ _ b2
  have c21 := cell_of_row wA _ 1 _ _ _ b2
  have c00 := cell_of_row wA _ 0 _ _ _ b0
  have c01 := cell_of_row wA _ 1 _ _ _ b0
  have B1 := Lib.hid b1
  have B2 := Lib.hid b2
  clear hB b0 b1 b2
  go_wp2_with fail
  apply wp_region_st (fun D w' => Mid w g wA.heap.size (if D 2 then ⟨l1, e1⟩ else r) l1 e1 k m (if D 5 then #[.string ⟨l1.toArray⟩, .int .i64 e1] else #[.string ⟨#[]⟩, .int .i64 0]) w') (fun _ _ => True) (fun i x _ => match i with
    | 0 => x = .agg #[.string ⟨l1.toArray⟩, .int .i64 e1]
    | 1 => x = .pointer (some ⟨g, 0, none⟩)
    | 2 => x = .int .i64 n
    | 3 => x = .int .i64 n
    | 4 => x = .bool true
    | 6 => x = .bool true
    | _ => True)
  case hG => (intro v; simp only [regFrame, List.zipIdx_cons, List.zipIdx_nil, List.foldl_cons, List.foldl_nil, Act.put, List.setIfInBounds_toArray, List.set_cons_zero, List.set_cons_succ, Nat.reduceAdd]; rfl)
  case hm => kernel_rfl
  case honce => rfl
  case hlow => kernel_rfl
  case hR => (intro i x w1 w2 _ h; split at h <;> exact h)
  case h0 => simpa using step_start (l1 := l1) (e1 := e1) hgl hz1 HG1.out HRD1.out B1.out B2.out
  case hstep =>
    refine ⟨?_, ?_, ?_, ?_, ?_, ?_, ?_, trivial⟩ <;> (intro D v w1 hI hf hd hc; simp only [Deps, Region.binds, ↓reduceIte] at hd)
    · have c0 := cell_of_row w1 _ 0 _ _ _ hI.2.2.2.1
      have c1 := cell_of_row w1 _ 1 _ _ _ hI.2.2.2.1
      (first | (refine opDoes_run (x := (.agg #[.string ⟨l1.toArray⟩, .int .i64 e1])) rfl ?_ ⟨(by first | trivial | exact fun _ _ h => h | exact Below.refl _ _), rfl, by (first | exact hI | simpa using hI)⟩; go_simp; done) | (refine opDoes_grun (x := (.agg #[.string ⟨l1.toArray⟩, .int .i64 e1])) (wanted_guard rfl rfl rfl (by simp only [hd]; rfl)) ?_ ⟨(by first | trivial | exact fun _ _ h => h | exact Below.refl _ _), rfl, by (first | exact hI | simpa using hI)⟩; go_simp; done))
    · (first | exact opDoes_move _ rfl rfl ⟨(by first | trivial | exact fun _ _ h => h | exact Below.refl _ _), rfl, by (first | exact hI | simpa using hI)⟩ | exact opDoes_gmove _ (wanted_guard rfl rfl rfl (by simp only [hd]; rfl)) rfl ⟨(by first | trivial | exact fun _ _ h => h | exact Below.refl _ _), rfl, by (first | exact hI | simpa using hI)⟩ | (refine opDoes_move _ rfl rfl ⟨(by first | trivial | exact fun _ _ h => h | exact Below.refl _ _), ?_, by (first | exact hI | simpa using hI)⟩; go_simp; done) | (refine opDoes_gmove _ (wanted_guard rfl rfl rfl (by simp only [hd]; rfl)) rfl ⟨(by first | trivial | exact fun _ _ h => h | exact Below.refl _ _), ?_, by (first | exact hI | simpa using hI)⟩; go_simp; done) | (refine opDoes_assign _ rfl rfl ⟨(by first | trivial | exact fun _ _ h => h | exact Below.refl _ _), ?_, by (first | exact hI | simpa using hI)⟩; go_simp; done))
    · refine opDoes_call _ _ _ #[.pointer (some ⟨g, 0, none⟩)] rfl rfl (by go_simp) (Try.call35 _ _) ?_
      rw [hf] at hI
      simp only [Bool.false_eq_true, if_false] at hI
      exact (HM.out w1 hI.2.1).mono fun e w2 hx => ⟨_, hx.1, trivial, rfl, by simpa using step_call hgl hz3 hI hx⟩
    · (first | exact opDoes_move _ rfl rfl ⟨(by first | trivial | exact fun _ _ h => h | exact Below.refl _ _), rfl, by (first | exact hI | simpa using hI)⟩ | exact opDoes_gmove _ (wanted_guard rfl rfl rfl (by simp only [hd]; rfl)) rfl ⟨(by first | trivial | exact fun _ _ h => h | exact Below.refl _ _), rfl, by (first | exact hI | simpa using hI)⟩ | (refine opDoes_move _ rfl rfl ⟨(by first | trivial | exact fun _ _ h => h | exact Below.refl _ _), ?_, by (first | exact hI | simpa using hI)⟩; go_simp; done) | (refine opDoes_gmove _ (wanted_guard rfl rfl rfl (by simp only [hd]; rfl)) rfl ⟨(by first | trivial | exact fun _ _ h => h | exact Below.refl _ _), ?_, by (first | exact hI | simpa using hI)⟩; go_simp; done) | (refine opDoes_assign _ rfl rfl ⟨(by first | trivial | exact fun _ _ h => h | exact Below.refl _ _), ?_, by (first | exact hI | simpa using hI)⟩; go_simp; done))
    · skip
      (first | (refine opDoes_run (x := (.bool true)) rfl ?_ ⟨(by first | trivial | exact fun _ _ h => h | exact Below.refl _ _), rfl, by (first | exact hI | simpa using hI)⟩; go_simp; done) | (refine opDoes_grun (x := (.bool true)) (wanted_guard rfl rfl rfl (by simp only [hd]; rfl)) ?_ ⟨(by first | trivial | exact fun _ _ h => h | exact Below.refl _ _), rfl, by (first | exact hI | simpa using hI)⟩; go_simp; done))
    · rw [hf] at hI
      simp only [Bool.false_eq_true, if_false] at hI
      have c0 := cell_of_row w1 _ 0 _ _ _ hI.2.2.1
      have c1 := cell_of_row w1 _ 1 _ _ _ hI.2.2.1
      have f0 := frozen_of_row w1 _ 0 _ _ hI.2.2.1
      have f1 := frozen_of_row w1 _ 1 _ _ hI.2.2.1
      simp at c0 c1
      have hst := step_store hgl hz1 ⟨l1.toArray⟩ e1 hI
      have HST := Lib.hid hst
      clear hst hI
      refine opDoes_skip rfl (w' := (w1.setCell ⟨w.heap.size + 1 + 1, 0, none⟩ (.string ⟨l1.toArray⟩)).setCell ⟨w.heap.size + 1 + 1, 1, none⟩ (.int .i64 e1)) ?_ ⟨trivial, trivial, by simpa using HST.out⟩
      go_simp
    · (first | exact opDoes_move _ rfl rfl ⟨(by first | trivial | exact fun _ _ h => h | exact Below.refl _ _), rfl, by (first | exact hI | simpa using hI)⟩ | exact opDoes_gmove _ (wanted_guard rfl rfl rfl (by simp only [hd]; rfl)) rfl ⟨(by first | trivial | exact fun _ _ h => h | exact Below.refl _ _), rfl, by (first | exact hI | simpa using hI)⟩ | (refine opDoes_move _ rfl rfl ⟨(by first | trivial | exact fun _ _ h => h | exact Below.refl _ _), ?_, by (first | exact hI | simpa using hI)⟩; go_simp; done) | (refine opDoes_gmove _ (wanted_guard rfl rfl rfl (by simp only [hd]; rfl)) rfl ⟨(by first | trivial | exact fun _ _ h => h | exact Below.refl _ _), ?_, by (first | exact hI | simpa using hI)⟩; go_simp; done) | (refine opDoes_assign _ rfl rfl ⟨(by first | trivial | exact fun _ _ h => h | exact Below.refl _ _), ?_, by (first | exact hI | simpa using hI)⟩; go_simp; done))
  case hend =>
    intro D v w4 hI h
    simp only [AllOps, Nat.zero_add, Nat.reduceAdd, and_true] at h
    have hv : v 6 = .bool true := h.2.2.2.2.2.2.2
    have hD1 : D 2 = true := h.2.2.1.1
    have hD2 : D 5 = true := h.2.2.2.2.2.1
    rw [hv]
    clear h
    simp only [hD1, hD2, if_true] at hI
    have c0 := cell_of_row w4 _ 0 _ _ _ hI.2.2.1
    have c1 := cell_of_row w4 _ 1 _ _ _ hI.2.2.1
    have HF := Lib.hid hI
    clear hI
    go_wp2_with fail
    refine ret_rv2 rfl rfl rfl rfl (by go_simp; all_goals rfl) (by go_simp; all_goals rfl) ?_
    exact ⟨by rw [HT.out]; rfl, by rw [HT.out]; exact HF.out.2.1, HF.out.1⟩


set_option maxRecDepth 20000 in
set_option maxHeartbeats 1000000 in
theorem step2_any (w : World) (g : Nat) (r : Wire.RS) (k m : Int) (hm : m ≤ 9223372036854775807) (hrd : RD w g r) (hl : r.l.length ≤ 1000000) (hk : (IntKind.u64.wrap k).tmod 7 = 2) :
    Calls Try.prog 33 #[.pointer (some ⟨g, 0, none⟩), rv r, opv k m] w (Stepped w g (Wire.turn 2 m r)) := by
  have hgl := hrd.lt
  have HRD := Lib.hid hrd
  have HT : Hid (Wire.turn 2 m r = (Wire.count r m).1) := rfl
  have HC := Lib.hid (fun w => refcount_any w r m hm hl)
  have HM := Lib.hid (fun w h => rcount_any w g r m hm h)
  clear hrd
  obtain ⟨⟨⟨l1, e1⟩, n⟩, hx⟩ : ∃ x, Wire.count r m = x := ⟨_, rfl⟩
  rw [hx] at HC HM HT
  clear hx
  simp only at HT
  unfold rv txt at HC
  unfold rv txt opv
  go_enter Try.func33, Try.ntmps33
  go_wp2_with fail
  refine (HC.out _).mono ?_
  rintro e wA ⟨rfl, hb⟩
  obtain ⟨b0, b1, b2, hz, hB⟩ := three_cells hb
  clear hb
  have HRD1 := Lib.hid (HRD.out.below hB)
  have HG1 : Hid (w.grownBy wA (some g)) := ⟨hB.os, hB.tape, hB.output, hB.size, fun k hk _ => hB.block k hk⟩
  have hz1 : w.heap.size + 1 + 1 < wA.heap.size := by omega
  have hz2 : w.heap.size + 1 < wA.heap.size := by omega
  have hz3 : w.heap.size < wA.heap.size := by omega
  have c10 := cell_of_row wA _ 0 _ _ _ b1
  have c11 := cell_of_row wA _ 1 _ _ _ b1
  have c20 := cell_of_row wA _ 0 _ _ _ b2
  have c21 := cell_of_row wA _ 1 _ _ _ b2
  have c00 := cell_of_row wA _ 0 _ _ _ b0
  have c01 := cell_of_row wA _ 1 _ _ _ b0
  have B1 := Lib.hid b1
  have B2 := Lib.hid b2
  clear hB b0 b1 b2
  go_wp2_with fail
  apply wp_region_st (fun D w' => Mid w g wA.heap.size (if D 4 then ⟨l1, e1⟩ else r) l1 e1 k m (if D 7 then #[.string ⟨l1.toArray⟩, .int .i64 e1] else #[.string ⟨#[]⟩, .int .i64 0]) w') (fun _ _ => True) (fun i x _ => match i with
    | 0 => x = .agg #[.string ⟨l1.toArray⟩, .int .i64 e1]
    | 1 => x = .pointer (some ⟨g, 0, none⟩)
    | 2 => x = .pointer (some ⟨w.heap.size + 1, 1, none⟩)
    | 3 => x = .int .i64 m
    | 4 => x = .int .i64 (n : Nat)
    | 5 => x = .int .i64 (n : Nat)
    | 6 => x = .bool true
    | 8 => x = .bool true
    | _ => True)
  case hG => (intro v; simp only [regFrame, List.zipIdx_cons, List.zipIdx_nil, List.foldl_cons, List.foldl_nil, Act.put, List.setIfInBounds_toArray, List.set_cons_zero, List.set_cons_succ, Nat.reduceAdd]; rfl)
  case hm => kernel_rfl
  case honce => rfl
  case hlow => kernel_rfl
  case hR => (intro i x w1 w2 _ h; split at h <;> exact h)
  case h0 => simpa using step_start (l1 := l1) (e1 := e1) hgl hz1 HG1.out HRD1.out B1.out B2.out
  case hstep =>
    refine ⟨?_, ?_, ?_, ?_, ?_, ?_, ?_, ?_, ?_, trivial⟩ <;> (intro D v w1 hI hf hd hc; simp only [Deps, Region.binds, ↓reduceIte] at hd)
    · have c0 := cell_of_row w1 _ 0 _ _ _ hI.2.2.2.1
      have c1 := cell_of_row w1 _ 1 _ _ _ hI.2.2.2.1
      (first | (refine opDoes_run (x := (.agg #[.string ⟨l1.toArray⟩, .int .i64 e1])) rfl ?_ ⟨(by first | trivial | exact fun _ _ h => h | exact Below.refl _ _), rfl, by (first | exact hI | simpa using hI)⟩; go_simp; done) | (refine opDoes_grun (x := (.agg #[.string ⟨l1.toArray⟩, .int .i64 e1])) (wanted_guard rfl rfl rfl (by simp only [hd]; rfl)) ?_ ⟨(by first | trivial | exact fun _ _ h => h | exact Below.refl _ _), rfl, by (first | exact hI | simpa using hI)⟩; go_simp; done))
    · (first | exact opDoes_move _ rfl rfl ⟨(by first | trivial | exact fun _ _ h => h | exact Below.refl _ _), rfl, by (first | exact hI | simpa using hI)⟩ | exact opDoes_gmove _ (wanted_guard rfl rfl rfl (by simp only [hd]; rfl)) rfl ⟨(by first | trivial | exact fun _ _ h => h | exact Below.refl _ _), rfl, by (first | exact hI | simpa using hI)⟩ | (refine opDoes_move _ rfl rfl ⟨(by first | trivial | exact fun _ _ h => h | exact Below.refl _ _), ?_, by (first | exact hI | simpa using hI)⟩; go_simp; done) | (refine opDoes_gmove _ (wanted_guard rfl rfl rfl (by simp only [hd]; rfl)) rfl ⟨(by first | trivial | exact fun _ _ h => h | exact Below.refl _ _), ?_, by (first | exact hI | simpa using hI)⟩; go_simp; done) | (refine opDoes_assign _ rfl rfl ⟨(by first | trivial | exact fun _ _ h => h | exact Below.refl _ _), ?_, by (first | exact hI | simpa using hI)⟩; go_simp; done))
    · have c1 := cell_of_row w1 _ 1 _ _ _ hI.2.2.2.2
      (first | (refine opDoes_run (x := (.pointer (some ⟨w.heap.size + 1, 1, none⟩))) rfl ?_ ⟨(by first | trivial | exact fun _ _ h => h | exact Below.refl _ _), rfl, by (first | exact hI | simpa using hI)⟩; go_simp; done) | (refine opDoes_grun (x := (.pointer (some ⟨w.heap.size + 1, 1, none⟩))) (wanted_guard rfl rfl rfl (by simp only [hd]; rfl)) ?_ ⟨(by first | trivial | exact fun _ _ h => h | exact Below.refl _ _), rfl, by (first | exact hI | simpa using hI)⟩; go_simp; done))
    · have c1 := cell_of_row w1 _ 1 _ _ _ hI.2.2.2.2
      (first | (refine opDoes_run (x := (.int .i64 m)) rfl ?_ ⟨(by first | trivial | exact fun _ _ h => h | exact Below.refl _ _), rfl, by (first | exact hI | simpa using hI)⟩; go_simp; done) | (refine opDoes_grun (x := (.int .i64 m)) (wanted_guard rfl rfl rfl (by simp only [hd]; rfl)) ?_ ⟨(by first | trivial | exact fun _ _ h => h | exact Below.refl _ _), rfl, by (first | exact hI | simpa using hI)⟩; go_simp; done))
    · refine opDoes_call _ _ _ #[.pointer (some ⟨g, 0, none⟩), .int .i64 m] rfl rfl (by go_simp) (Try.call36 _ _) ?_
      rw [hf] at hI
      simp only [Bool.false_eq_true, if_false] at hI
      exact (HM.out w1 hI.2.1).mono fun e w2 hx => ⟨_, hx.1, trivial, rfl, by simpa using step_call hgl hz3 hI hx⟩
    · (first | exact opDoes_move _ rfl rfl ⟨(by first | trivial | exact fun _ _ h => h | exact Below.refl _ _), rfl, by (first | exact hI | simpa using hI)⟩ | exact opDoes_gmove _ (wanted_guard rfl rfl rfl (by simp only [hd]; rfl)) rfl ⟨(by first | trivial | exact fun _ _ h => h | exact Below.refl _ _), rfl, by (first | exact hI | simpa using hI)⟩ | (refine opDoes_move _ rfl rfl ⟨(by first | trivial | exact fun _ _ h => h | exact Below.refl _ _), ?_, by (first | exact hI | simpa using hI)⟩; go_simp; done) | (refine opDoes_gmove _ (wanted_guard rfl rfl rfl (by simp only [hd]; rfl)) rfl ⟨(by first | trivial | exact fun _ _ h => h | exact Below.refl _ _), ?_, by (first | exact hI | simpa using hI)⟩; go_simp; done) | (refine opDoes_assign _ rfl rfl ⟨(by first | trivial | exact fun _ _ h => h | exact Below.refl _ _), ?_, by (first | exact hI | simpa using hI)⟩; go_simp; done))
    · skip
      (first | (refine opDoes_run (x := (.bool true)) rfl ?_ ⟨(by first | trivial | exact fun _ _ h => h | exact Below.refl _ _), rfl, by (first | exact hI | simpa using hI)⟩; go_simp; done) | (refine opDoes_grun (x := (.bool true)) (wanted_guard rfl rfl rfl (by simp only [hd]; rfl)) ?_ ⟨(by first | trivial | exact fun _ _ h => h | exact Below.refl _ _), rfl, by (first | exact hI | simpa using hI)⟩; go_simp; done))
    · rw [hf] at hI
      simp only [Bool.false_eq_true, if_false] at hI
      have c0 := cell_of_row w1 _ 0 _ _ _ hI.2.2.1
      have c1 := cell_of_row w1 _ 1 _ _ _ hI.2.2.1
      have f0 := frozen_of_row w1 _ 0 _ _ hI.2.2.1
      have f1 := frozen_of_row w1 _ 1 _ _ hI.2.2.1
      simp at c0 c1
      have hst := step_store hgl hz1 ⟨l1.toArray⟩ e1 hI
      have HST := Lib.hid hst
      clear hst hI
      refine opDoes_skip rfl (w' := (w1.setCell ⟨w.heap.size + 1 + 1, 0, none⟩ (.string ⟨l1.toArray⟩)).setCell ⟨w.heap.size + 1 + 1, 1, none⟩ (.int .i64 e1)) ?_ ⟨trivial, trivial, by simpa using HST.out⟩
      go_simp
    · (first | exact opDoes_move _ rfl rfl ⟨(by first | trivial | exact fun _ _ h => h | exact Below.refl _ _), rfl, by (first | exact hI | simpa using hI)⟩ | exact opDoes_gmove _ (wanted_guard rfl rfl rfl (by simp only [hd]; rfl)) rfl ⟨(by first | trivial | exact fun _ _ h => h | exact Below.refl _ _), rfl, by (first | exact hI | simpa using hI)⟩ | (refine opDoes_move _ rfl rfl ⟨(by first | trivial | exact fun _ _ h => h | exact Below.refl _ _), ?_, by (first | exact hI | simpa using hI)⟩; go_simp; done) | (refine opDoes_gmove _ (wanted_guard rfl rfl rfl (by simp only [hd]; rfl)) rfl ⟨(by first | trivial | exact fun _ _ h => h | exact Below.refl _ _), ?_, by (first | exact hI | simpa using hI)⟩; go_simp; done) | (refine opDoes_assign _ rfl rfl ⟨(by first | trivial | exact fun _ _ h => h | exact Below.refl _ _), ?_, by (first | exact hI | simpa using hI)⟩; go_simp; done))
  case hend =>
    intro D v w4 hI h
    simp only [AllOps, Nat.zero_add, Nat.reduceAdd, and_true] at h
    have hv : v 8 = .bool true := h.2.2.2.2.2.2.2.2.2
    have hD1 : D 4 = true := h.2.2.2.2.1.1
    have hD2 : D 7 = true := h.2.2.2.2.2.2.2.1
    rw [hv]
    clear h
    simp only [hD1, hD2, if_true] at hI
    have c0 := cell_of_row w4 _ 0 _ _ _ hI.2.2.1
    have c1 := cell_of_row w4 _ 1 _ _ _ hI.2.2.1
    have HF := Lib.hid hI
    clear hI
    go_wp2_with fail
    refine ret_rv2 rfl rfl rfl rfl (by go_simp; all_goals rfl) (by go_simp; all_goals rfl) ?_
    exact ⟨by rw [HT.out]; rfl, by rw [HT.out]; exact HF.out.2.1, HF.out.1⟩


set_option maxRecDepth 20000 in
set_option maxHeartbeats 1000000 in
theorem step3_any (w : World) (g : Nat) (r : Wire.RS) (k m : Int) (hm : m ≤ 9223372036854775807) (hrd : RD w g r) (hl : r.l.length ≤ 1000000) (hk : (IntKind.u64.wrap k).tmod 7 = 3) :
    Calls Try.prog 33 #[.pointer (some ⟨g, 0, none⟩), rv r, opv k m] w (Stepped w g (Wire.turn 3 m r)) := by
  have hgl := hrd.lt
  have HRD := Lib.hid hrd
  have HT : Hid (Wire.turn 3 m r = (Wire.takeText r m).1) := rfl
  have HC := Lib.hid (fun w => reftaketext_any w r m hm hl)
  have HM := Lib.hid (fun w h => rtext_any w g r m hm h)
  clear hrd
  obtain ⟨⟨⟨l1, e1⟩, n⟩, hx⟩ : ∃ x, Wire.takeText r m = x := ⟨_, rfl⟩
  rw [hx] at HC HM HT
  clear hx
  simp only at HT
  unfold rv txt at HC
  unfold rv txt opv
  go_enter Try.func33, Try.ntmps33
  go_wp2_with fail
  refine (HC.out _).mono ?_
  rintro e wA ⟨rfl, hb⟩
  obtain ⟨b0, b1, b2, hz, hB⟩ := three_cells hb
  clear hb
  have HRD1 := Lib.hid (HRD.out.below hB)
  have HG1 : Hid (w.grownBy wA (some g)) := ⟨hB.os, hB.tape, hB.output, hB.size, fun k hk _ => hB.block k hk⟩
  have hz1 : w.heap.size + 1 + 1 < wA.heap.size := by omega
  have hz2 : w.heap.size + 1 < wA.heap.size := by omega
  have hz3 : w.heap.size < wA.heap.size := by omega
  have c10 := cell_of_row wA _ 0 _ _ _ b1
  have c11 := cell_of_row wA _ 1 _ _ _ b1
  have c20 := cell_of_row wA _ 0 _ _ _ b2
  have c21 := cell_of_row wA _ 1 _ _ _ b2
  have c00 := cell_of_row wA _ 0 _ _ _ b0
  have c01 := cell_of_row wA _ 1 _ _ _ b0
  have B1 := Lib.hid b1
  have B2 := Lib.hid b2
  clear hB b0 b1 b2
  go_wp2_with fail
  apply wp_region_st (fun D w' => Mid w g wA.heap.size (if D 4 then ⟨l1, e1⟩ else r) l1 e1 k m (if D 7 then #[.string ⟨l1.toArray⟩, .int .i64 e1] else #[.string ⟨#[]⟩, .int .i64 0]) w') (fun _ _ => True) (fun i x _ => match i with
    | 0 => x = .agg #[.string ⟨l1.toArray⟩, .int .i64 e1]
    | 1 => x = .pointer (some ⟨g, 0, none⟩)
    | 2 => x = .pointer (some ⟨w.heap.size + 1, 1, none⟩)
    | 3 => x = .int .i64 m
    | 4 => x = txt n
    | 5 => x = txt n
    | 6 => x = .bool true
    | 8 => x = .bool true
    | _ => True)
  case hG => (intro v; simp only [regFrame, List.zipIdx_cons, List.zipIdx_nil, List.foldl_cons, List.foldl_nil, Act.put, List.setIfInBounds_toArray, List.set_cons_zero, List.set_cons_succ, Nat.reduceAdd]; rfl)
  case hm => kernel_rfl
  case honce => rfl
  case hlow => kernel_rfl
  case hR => (intro i x w1 w2 _ h; split at h <;> exact h)
  case h0 => simpa using step_start (l1 := l1) (e1 := e1) hgl hz1 HG1.out HRD1.out B1.out B2.out
  case hstep =>
    refine ⟨?_, ?_, ?_, ?_, ?_, ?_, ?_, ?_, ?_, trivial⟩ <;> (intro D v w1 hI hf hd hc; simp only [Deps, Region.binds, ↓reduceIte] at hd)
    · have c0 := cell_of_row w1 _ 0 _ _ _ hI.2.2.2.1
      have c1 := cell_of_row w1 _ 1 _ _ _ hI.2.2.2.1
      (first | (refine opDoes_run (x := (.agg #[.string ⟨l1.toArray⟩, .int .i64 e1])) rfl ?_ ⟨(by first | trivial | exact fun _ _ h => h | exact Below.refl _ _), rfl, by (first | exact hI | simpa using hI)⟩; go_simp; done) | (refine opDoes_grun (x := (.agg #[.string ⟨l1.toArray⟩, .int .i64 e1])) (wanted_guard rfl rfl rfl (by simp only [hd]; rfl)) ?_ ⟨(by first | trivial | exact fun _ _ h => h | exact Below.refl _ _), rfl, by (first | exact hI | simpa using hI)⟩; go_simp; done))
    · (first | exact opDoes_move _ rfl rfl ⟨(by first | trivial | exact fun _ _ h => h | exact Below.refl _ _), rfl, by (first | exact hI | simpa using hI)⟩ | exact opDoes_gmove _ (wanted_guard rfl rfl rfl (by simp only [hd]; rfl)) rfl ⟨(by first | trivial | exact fun _ _ h => h | exact Below.refl _ _), rfl, by (first | exact hI | simpa using hI)⟩ | (refine opDoes_move _ rfl rfl ⟨(by first | trivial | exact fun _ _ h => h | exact Below.refl _ _), ?_, by (first | exact hI | simpa using hI)⟩; go_simp; done) | (refine opDoes_gmove _ (wanted_guard rfl rfl rfl (by simp only [hd]; rfl)) rfl ⟨(by first | trivial | exact fun _ _ h => h | exact Below.refl _ _), ?_, by (first | exact hI | simpa using hI)⟩; go_simp; done) | (refine opDoes_assign _ rfl rfl ⟨(by first | trivial | exact fun _ _ h => h | exact Below.refl _ _), ?_, by (first | exact hI | simpa using hI)⟩; go_simp; done))
    · have c1 := cell_of_row w1 _ 1 _ _ _ hI.2.2.2.2
      (first | (refine opDoes_run (x := (.pointer (some ⟨w.heap.size + 1, 1, none⟩))) rfl ?_ ⟨(by first | trivial | exact fun _ _ h => h | exact Below.refl _ _), rfl, by (first | exact hI | simpa using hI)⟩; go_simp; done) | (refine opDoes_grun (x := (.pointer (some ⟨w.heap.size + 1, 1, none⟩))) (wanted_guard rfl rfl rfl (by simp only [hd]; rfl)) ?_ ⟨(by first | trivial | exact fun _ _ h => h | exact Below.refl _ _), rfl, by (first | exact hI | simpa using hI)⟩; go_simp; done))
    · have c1 := cell_of_row w1 _ 1 _ _ _ hI.2.2.2.2
      (first | (refine opDoes_run (x := (.int .i64 m)) rfl ?_ ⟨(by first | trivial | exact fun _ _ h => h | exact Below.refl _ _), rfl, by (first | exact hI | simpa using hI)⟩; go_simp; done) | (refine opDoes_grun (x := (.int .i64 m)) (wanted_guard rfl rfl rfl (by simp only [hd]; rfl)) ?_ ⟨(by first | trivial | exact fun _ _ h => h | exact Below.refl _ _), rfl, by (first | exact hI | simpa using hI)⟩; go_simp; done))
    · refine opDoes_call _ _ _ #[.pointer (some ⟨g, 0, none⟩), .int .i64 m] rfl rfl (by go_simp) (Try.call30 _ _) ?_
      rw [hf] at hI
      simp only [Bool.false_eq_true, if_false] at hI
      exact (HM.out w1 hI.2.1).mono fun e w2 hx => ⟨_, hx.1, trivial, rfl, by simpa using step_call hgl hz3 hI hx⟩
    · (first | exact opDoes_move _ rfl rfl ⟨(by first | trivial | exact fun _ _ h => h | exact Below.refl _ _), rfl, by (first | exact hI | simpa using hI)⟩ | exact opDoes_gmove _ (wanted_guard rfl rfl rfl (by simp only [hd]; rfl)) rfl ⟨(by first | trivial | exact fun _ _ h => h | exact Below.refl _ _), rfl, by (first | exact hI | simpa using hI)⟩ | (refine opDoes_move _ rfl rfl ⟨(by first | trivial | exact fun _ _ h => h | exact Below.refl _ _), ?_, by (first | exact hI | simpa using hI)⟩; go_simp; done) | (refine opDoes_gmove _ (wanted_guard rfl rfl rfl (by simp only [hd]; rfl)) rfl ⟨(by first | trivial | exact fun _ _ h => h | exact Below.refl _ _), ?_, by (first | exact hI | simpa using hI)⟩; go_simp; done) | (refine opDoes_assign _ rfl rfl ⟨(by first | trivial | exact fun _ _ h => h | exact Below.refl _ _), ?_, by (first | exact hI | simpa using hI)⟩; go_simp; done))
    · skip
      unfold txt at hd
      (first | (refine opDoes_run (x := (.bool true)) rfl ?_ ⟨(by first | trivial | exact fun _ _ h => h | exact Below.refl _ _), rfl, by (first | exact hI | simpa using hI)⟩; go_simp; done) | (refine opDoes_grun (x := (.bool true)) (wanted_guard rfl rfl rfl (by simp only [hd]; rfl)) ?_ ⟨(by first | trivial | exact fun _ _ h => h | exact Below.refl _ _), rfl, by (first | exact hI | simpa using hI)⟩; go_simp; done))
    · rw [hf] at hI
      simp only [Bool.false_eq_true, if_false] at hI
      have c0 := cell_of_row w1 _ 0 _ _ _ hI.2.2.1
      have c1 := cell_of_row w1 _ 1 _ _ _ hI.2.2.1
      have f0 := frozen_of_row w1 _ 0 _ _ hI.2.2.1
      have f1 := frozen_of_row w1 _ 1 _ _ hI.2.2.1
      simp at c0 c1
      have hst := step_store hgl hz1 ⟨l1.toArray⟩ e1 hI
      have HST := Lib.hid hst
      clear hst hI
      refine opDoes_skip rfl (w' := (w1.setCell ⟨w.heap.size + 1 + 1, 0, none⟩ (.string ⟨l1.toArray⟩)).setCell ⟨w.heap.size + 1 + 1, 1, none⟩ (.int .i64 e1)) ?_ ⟨trivial, trivial, by simpa using HST.out⟩
      go_simp
    · (first | exact opDoes_move _ rfl rfl ⟨(by first | trivial | exact fun _ _ h => h | exact Below.refl _ _), rfl, by (first | exact hI | simpa using hI)⟩ | exact opDoes_gmove _ (wanted_guard rfl rfl rfl (by simp only [hd]; rfl)) rfl ⟨(by first | trivial | exact fun _ _ h => h | exact Below.refl _ _), rfl, by (first | exact hI | simpa using hI)⟩ | (refine opDoes_move _ rfl rfl ⟨(by first | trivial | exact fun _ _ h => h | exact Below.refl _ _), ?_, by (first | exact hI | simpa using hI)⟩; go_simp; done) | (refine opDoes_gmove _ (wanted_guard rfl rfl rfl (by simp only [hd]; rfl)) rfl ⟨(by first | trivial | exact fun _ _ h => h | exact Below.refl _ _), ?_, by (first | exact hI | simpa using hI)⟩; go_simp; done) | (refine opDoes_assign _ rfl rfl ⟨(by first | trivial | exact fun _ _ h => h | exact Below.refl _ _), ?_, by (first | exact hI | simpa using hI)⟩; go_simp; done))
  case hend =>
    intro D v w4 hI h
    simp only [AllOps, Nat.zero_add, Nat.reduceAdd, and_true] at h
    have hv : v 8 = .bool true := h.2.2.2.2.2.2.2.2.2
    have hD1 : D 4 = true := h.2.2.2.2.1.1
    have hD2 : D 7 = true := h.2.2.2.2.2.2.2.1
    rw [hv]
    clear h
    simp only [hD1, hD2, if_true] at hI
    have c0 := cell_of_row w4 _ 0 _ _ _ hI.2.2.1
    have c1 := cell_of_row w4 _ 1 _ _ _ hI.2.2.1
    have HF := Lib.hid hI
    clear hI
    go_wp2_with fail
    refine ret_rv2 rfl rfl rfl rfl (by go_simp; all_goals rfl) (by go_simp; all_goals rfl) ?_
    exact ⟨by rw [HT.out]; rfl, by rw [HT.out]; exact HF.out.2.1, HF.out.1⟩


set_option maxRecDepth 20000 in
set_option maxHeartbeats 1000000 in
theorem step4_any (w : World) (g : Nat) (r : Wire.RS) (k m : Int) (_hm : m ≤ 9223372036854775807) (hrd : RD w g r) (hl : r.l.length ≤ 1000000) (hk : (IntKind.u64.wrap k).tmod 7 = 4) :
    Calls Try.prog 33 #[.pointer (some ⟨g, 0, none⟩), rv r, opv k m] w (Stepped w g (Wire.turn 4 m r)) := by
  have hgl := hrd.lt
  have HRD := Lib.hid hrd
  have HT : Hid (Wire.turn 4 m r = (Wire.takeBool r).1) := rfl
  have HC := Lib.hid (fun w => reftakebool_any w r hl)
  have HM := Lib.hid (fun w h => rbool_any w g r h)
  clear hrd
  obtain ⟨⟨⟨l1, e1⟩, n⟩, hx⟩ : ∃ x, Wire.takeBool r = x := ⟨_, rfl⟩
  rw [hx] at HC HM HT
  clear hx
  simp only at HT
  unfold rv txt at HC
  unfold rv txt opv
  go_enter Try.func33, Try.ntmps33
  go_wp2_with fail
  refine (HC.out _).mono ?_
  rintro e wA ⟨rfl, hb⟩
  obtain ⟨b0, b1, b2, hz, hB⟩ := three_cells hb
  clear hb
  have HRD1 := Lib.hid (HRD.out.below hB)
  have HG1 : Hid (w.grownBy wA (some g)) := ⟨hB.os, hB.tape, hB.output, hB.size, fun k hk _ => hB.block k hk⟩
  have hz1 : w.heap.size + 1 + 1 < wA.heap.size := by omega
  have hz2 : w.heap.size + 1 < wA.heap.size := by omega
  have hz3 : w.heap.size < wA.heap.size := by omega
  have c10 := cell_of_row wA _ 0 _ _ _ b1
  have c11 := cell_of_row wA _ 1 _ _ _ b1
  have c20 := cell_of_row wA _ 0 _ _ _ b2
  have c21 := cell_of_row wA _ 1 _ _ _ b2
  have c00 := cell_of_row wA _ 0 _ _ _ b0
  have c01 := cell_of_row wA _ 1 _ _ _ b0
  have B1 := Lib.hid b1
  have B2 := Lib.hid b2
  clear hB b0 b1 b2
  go_wp2_with fail
  apply wp_region_st (fun D w' => Mid w g wA.heap.size (if D 2 then ⟨l1, e1⟩ else r) l1 e1 k m (if D 5 then #[.string ⟨l1.toArray⟩, .int .i64 e1] else #[.string ⟨#[]⟩, .int .i64 0]) w') (fun _ _ => True) (fun i x _ => match i with
    | 0 => x = .agg #[.string ⟨l1.toArray⟩, .int .i64 e1]
    | 1 => x = .pointer (some ⟨g, 0, none⟩)
    | 2 => x = .bool n
    | 3 => x = .bool n
    | 4 => x = .bool true
    | 6 => x = .bool true
    | _ => True)
  case hG => (intro v; simp only [regFrame, List.zipIdx_cons, List.zipIdx_nil, List.foldl_cons, List.foldl_nil, Act.put, List.setIfInBounds_toArray, List.set_cons_zero, List.set_cons_succ, Nat.reduceAdd]; rfl)
  case hm => kernel_rfl
  case honce => rfl
  case hlow => kernel_rfl
  case hR => (intro i x w1 w2 _ h; split at h <;> exact h)
  case h0 => simpa using step_start (l1 := l1) (e1 := e1) hgl hz1 HG1.out HRD1.out B1.out B2.out
  case hstep =>
    refine ⟨?_, ?_, ?_, ?_, ?_, ?_, ?_, trivial⟩ <;> (intro D v w1 hI hf hd hc; simp only [Deps, Region.binds, ↓reduceIte] at hd)
    · have c0 := cell_of_row w1 _ 0 _ _ _ hI.2.2.2.1
      have c1 := cell_of_row w1 _ 1 _ _ _ hI.2.2.2.1
      (first | (refine opDoes_run (x := (.agg #[.string ⟨l1.toArray⟩, .int .i64 e1])) rfl ?_ ⟨(by first | trivial | exact fun _ _ h => h | exact Below.refl _ _), rfl, by (first | exact hI | simpa using hI)⟩; go_simp; done) | (refine opDoes_grun (x := (.agg #[.string ⟨l1.toArray⟩, .int .i64 e1])) (wanted_guard rfl rfl rfl (by simp only [hd]; rfl)) ?_ ⟨(by first | trivial | exact fun _ _ h => h | exact Below.refl _ _), rfl, by (first | exact hI | simpa using hI)⟩; go_simp; done))
    · (first | exact opDoes_move _ rfl rfl ⟨(by first | trivial | exact fun _ _ h => h | exact Below.refl _ _), rfl, by (first | exact hI | simpa using hI)⟩ | exact opDoes_gmove _ (wanted_guard rfl rfl rfl (by simp only [hd]; rfl)) rfl ⟨(by first | trivial | exact fun _ _ h => h | exact Below.refl _ _), rfl, by (first | exact hI | simpa using hI)⟩ | (refine opDoes_move _ rfl rfl ⟨(by first | trivial | exact fun _ _ h => h | exact Below.refl _ _), ?_, by (first | exact hI | simpa using hI)⟩; go_simp; done) | (refine opDoes_gmove _ (wanted_guard rfl rfl rfl (by simp only [hd]; rfl)) rfl ⟨(by first | trivial | exact fun _ _ h => h | exact Below.refl _ _), ?_, by (first | exact hI | simpa using hI)⟩; go_simp; done) | (refine opDoes_assign _ rfl rfl ⟨(by first | trivial | exact fun _ _ h => h | exact Below.refl _ _), ?_, by (first | exact hI | simpa using hI)⟩; go_simp; done))
    · refine opDoes_call _ _ _ #[.pointer (some ⟨g, 0, none⟩)] rfl rfl (by go_simp) (Try.call37 _ _) ?_
      rw [hf] at hI
      simp only [Bool.false_eq_true, if_false] at hI
      exact (HM.out w1 hI.2.1).mono fun e w2 hx => ⟨_, hx.1, trivial, rfl, by simpa using step_call hgl hz3 hI hx⟩
    · (first | exact opDoes_move _ rfl rfl ⟨(by first | trivial | exact fun _ _ h => h | exact Below.refl _ _), rfl, by (first | exact hI | simpa using hI)⟩ | exact opDoes_gmove _ (wanted_guard rfl rfl rfl (by simp only [hd]; rfl)) rfl ⟨(by first | trivial | exact fun _ _ h => h | exact Below.refl _ _), rfl, by (first | exact hI | simpa using hI)⟩ | (refine opDoes_move _ rfl rfl ⟨(by first | trivial | exact fun _ _ h => h | exact Below.refl _ _), ?_, by (first | exact hI | simpa using hI)⟩; go_simp; done) | (refine opDoes_gmove _ (wanted_guard rfl rfl rfl (by simp only [hd]; rfl)) rfl ⟨(by first | trivial | exact fun _ _ h => h | exact Below.refl _ _), ?_, by (first | exact hI | simpa using hI)⟩; go_simp; done) | (refine opDoes_assign _ rfl rfl ⟨(by first | trivial | exact fun _ _ h => h | exact Below.refl _ _), ?_, by (first | exact hI | simpa using hI)⟩; go_simp; done))
    · skip
      (first | (refine opDoes_run (x := (.bool true)) rfl ?_ ⟨(by first | trivial | exact fun _ _ h => h | exact Below.refl _ _), rfl, by (first | exact hI | simpa using hI)⟩; go_simp; done) | (refine opDoes_grun (x := (.bool true)) (wanted_guard rfl rfl rfl (by simp only [hd]; rfl)) ?_ ⟨(by first | trivial | exact fun _ _ h => h | exact Below.refl _ _), rfl, by (first | exact hI | simpa using hI)⟩; go_simp; done))
    · rw [hf] at hI
      simp only [Bool.false_eq_true, if_false] at hI
      have c0 := cell_of_row w1 _ 0 _ _ _ hI.2.2.1
      have c1 := cell_of_row w1 _ 1 _ _ _ hI.2.2.1
      have f0 := frozen_of_row w1 _ 0 _ _ hI.2.2.1
      have f1 := frozen_of_row w1 _ 1 _ _ hI.2.2.1
      simp at c0 c1
      have hst := step_store hgl hz1 ⟨l1.toArray⟩ e1 hI
      have HST := Lib.hid hst
      clear hst hI
      refine opDoes_skip rfl (w' := (w1.setCell ⟨w.heap.size + 1 + 1, 0, none⟩ (.string ⟨l1.toArray⟩)).setCell ⟨w.heap.size + 1 + 1, 1, none⟩ (.int .i64 e1)) ?_ ⟨trivial, trivial, by simpa using HST.out⟩
      go_simp
    · (first | exact opDoes_move _ rfl rfl ⟨(by first | trivial | exact fun _ _ h => h | exact Below.refl _ _), rfl, by (first | exact hI | simpa using hI)⟩ | exact opDoes_gmove _ (wanted_guard rfl rfl rfl (by simp only [hd]; rfl)) rfl ⟨(by first | trivial | exact fun _ _ h => h | exact Below.refl _ _), rfl, by (first | exact hI | simpa using hI)⟩ | (refine opDoes_move _ rfl rfl ⟨(by first | trivial | exact fun _ _ h => h | exact Below.refl _ _), ?_, by (first | exact hI | simpa using hI)⟩; go_simp; done) | (refine opDoes_gmove _ (wanted_guard rfl rfl rfl (by simp only [hd]; rfl)) rfl ⟨(by first | trivial | exact fun _ _ h => h | exact Below.refl _ _), ?_, by (first | exact hI | simpa using hI)⟩; go_simp; done) | (refine opDoes_assign _ rfl rfl ⟨(by first | trivial | exact fun _ _ h => h | exact Below.refl _ _), ?_, by (first | exact hI | simpa using hI)⟩; go_simp; done))
  case hend =>
    intro D v w4 hI h
    simp only [AllOps, Nat.zero_add, Nat.reduceAdd, and_true] at h
    have hv : v 6 = .bool true := h.2.2.2.2.2.2.2
    have hD1 : D 2 = true := h.2.2.1.1
    have hD2 : D 5 = true := h.2.2.2.2.2.1
    rw [hv]
    clear h
    simp only [hD1, hD2, if_true] at hI
    have c0 := cell_of_row w4 _ 0 _ _ _ hI.2.2.1
    have c1 := cell_of_row w4 _ 1 _ _ _ hI.2.2.1
    have HF := Lib.hid hI
    clear hI
    go_wp2_with fail
    refine ret_rv2 rfl rfl rfl rfl (by go_simp; all_goals rfl) (by go_simp; all_goals rfl) ?_
    exact ⟨by rw [HT.out]; rfl, by rw [HT.out]; exact HF.out.2.1, HF.out.1⟩

end Go.Proofs.Ytgdlfihiheeniaa
