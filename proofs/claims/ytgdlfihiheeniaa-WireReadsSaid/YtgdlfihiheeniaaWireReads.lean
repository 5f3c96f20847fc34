/-
  The walk of WireReads.
-/
import Derived.Test.YtgdlfihiheeniaaWireOps
import Derived.Test.YtgdlfihiheeniaaWireLives
import Derived.Test.YtgdlfihiheeniaaRegionSv
namespace Go.Proofs.Ytgdlfihiheeniaa
open Go.RowKit

/-- What a reader comes to behind the things ks. -/
def Wire.turns (ks : List (Int × Int)) (r : Wire.RS) : Wire.RS := ks.foldl (fun r k => Wire.turn (Wire.kind k.1) k.2 r) r
theorem turns_len (ks : List (Int × Int)) : ∀ r, (Wire.turns ks r).l.length ≤ r.l.length := by
  induction ks with
  | nil => intro r; exact Nat.le_refl _
  | cons k ks ih => intro r; exact Nat.le_trans (ih _) (turn_len _ _ _)
theorem turns_take (ks : List (Int × Int)) (i : Nat) (h : i < ks.length) (r : Wire.RS) : Wire.turns (ks.take (i + 1)) r = Wire.turn (Wire.kind ks[i].1) ks[i].2 (Wire.turns (ks.take i) r) := by
  unfold Wire.turns
  rw [List.take_succ_eq_append_getElem h, List.foldl_append]
  rfl

theorem rd_ne {w : World} {g b : Nat} {r : Wire.RS} {s : ByteArray} {y : Value} {t : TypeId} (h : RD w g r) (hb : w.heap[b]? = some (.cells #[.string s, y] t (0, 0))) : b ≠ g := by
  rintro rfl
  obtain ⟨A, c, hg, _⟩ := h
  rw [hb] at hg
  simp at hg

set_option maxRecDepth 20000 in
set_option maxHeartbeats 1000000 in
theorem wireReads_walk (w : World) (A : Option Addr) (c : Nat) (l : List UInt8) (hr : BRow w A l) (_hlc : l.length ≤ c) (_hcm : c ≤ maxLen) (v : Value) (hv : OpsIn w v) :
    Calls Try.prog 12 #[.slice A l.length c, v] w fun e w' => e = .returned (.bool true) ∧ Below w.heap.size w w' := by
  obtain ⟨A2, c2, ks, rfl, ho, hks, hkc, hkm⟩ := hv
  have HKS := Lib.hid hks
  have HO := Lib.hid ho
  clear hks hkc hkm
  by_cases h1 : 2000 < l.length
  · go_enter Try.func12, Try.ntmps12
    go_wp2_with fail
    refine (wlives_any w).mono ?_
    rintro e w1 ⟨rfl, hbA⟩
    have h1i : (2000 : Int) < (l.length : Int) := by omega
    go_wp2_with fail
    refine (wlives_any w1).mono ?_
    rintro e w2 ⟨rfl, hb2⟩
    go_wp2_with fail
    go_ret
    exact ⟨rfl, hbA.trans (hb2.mono hbA.size)⟩
  · have h1i : ¬ (2000 : Int) < (l.length : Int) := by omega
    by_cases h2 : 200 < ks.length
    · have h2i : (200 : Int) < (ks.length : Int) := by omega
      go_enter Try.func12, Try.ntmps12
      go_wp2_with fail
      refine (wlives_any w).mono ?_
      rintro e w1 ⟨rfl, hbA⟩
      go_wp2_with fail
      refine (wlives_any w1).mono ?_
      rintro e w2 ⟨rfl, hb2⟩
      go_wp2_with fail
      go_ret
      exact ⟨rfl, hbA.trans (hb2.mono hbA.size)⟩
    · have h2i : ¬ (200 : Int) < (ks.length : Int) := by omega
      go_enter Try.func12, Try.ntmps12
      go_wp2_with fail
      refine (wlives_any w).mono ?_
      rintro e wL ⟨rfl, hbA⟩
      have hr1 := hr.below hbA
      have ho1 := ho.below hbA
      have HB1 := Lib.hid hbA
      have hz1 := hbA.size
      clear hbA hr ho
      go_wp2_with fail
      apply wp_region_sv (fun D v w' => Below w.heap.size w w' ∧ Below wL.heap.size wL w' ∧ (D 1 = true → ∃ g, v 1 = .pointer (some ⟨g, 0, none⟩) ∧ wL.heap.size ≤ g ∧ RD w' g ⟨l, 0⟩) ∧
          (D 5 = true → ∃ b, v 5 = .pointer (some ⟨b, 0, none⟩) ∧ wL.heap.size ≤ b ∧ w'.heap[b]? = some (.cells (if D 7 then #[.string ⟨l.toArray⟩, .int .i64 0] else #[.string ⟨#[]⟩, .int .i64 0]) 55 (0, 0))) ∧
          (D 6 = true → v 6 = v 1)) (fun _ _ => True) (fun i x _ => match i with
        | 0 => x = .slice A l.length c
        | 2 => x = .slice A l.length c
        | 3 => x = .string ⟨l.toArray⟩
        | 4 => x = .agg #[.string ⟨l.toArray⟩, .int .i64 0]
        | _ => True)
      case hG => (intro v; simp only [regFrame, List.zipIdx_cons, List.zipIdx_nil, List.foldl_cons, List.foldl_nil, Act.put, List.setIfInBounds_toArray, List.set_cons_zero, List.set_cons_succ, Nat.reduceAdd]; rfl)
      case hm => kernel_rfl
      case honce => rfl
      case hlow => kernel_rfl
      case hR => (intro i x w1 w2 _ h; split at h <;> exact h)
      case h0 => exact fun _ => ⟨HB1.out.drew, (Below.refl _ _).drew, fun h => by simp at h, fun h => by simp at h, fun h => by simp at h⟩
      case hstep =>
        refine ⟨?_, ?_, ?_, ?_, ?_, ?_, ?_, ?_, trivial⟩ <;> (intro D v w1 hI hf hd hc; simp only [Deps, Region.binds, ↓reduceIte] at hd)
        · exact opDoes_move _ rfl rfl ⟨trivial, rfl, by simpa using hI⟩
        · refine opDoes_call _ _ _ #[.slice A l.length c] rfl rfl (by go_simp) (Try.call24 _ _) ?_
          obtain ⟨i1, i2, i3, i4, i5⟩ := hI
          refine (wread_any w1 A c l (hr1.below i2) (by omega)).mono fun e w2 ⟨g, he, hro, hb⟩ => ⟨_, he, trivial, trivial, i1.trans (hb.mono i1.size), i2.trans (hb.mono i2.size), fun _ => ⟨g, by simp, Nat.le_trans i2.size hro.ge, hro.rd⟩, fun h => ?_, fun h => ?_⟩
          · have h5 : D 5 = true := by simpa using h
            obtain ⟨b, hv, hb1, hb2⟩ := i4 h5
            refine ⟨b, by simpa using hv, hb1, (hb.block b (Array.getElem?_eq_some_iff.1 hb2).1).trans ?_⟩
            simpa using hb2
          · have h6 : D 6 = true := by simpa using h
            have := done_of hc 20 1 h6 (by kernel_rfl)
            rw [hf] at this
            cases this
        · exact opDoes_move _ rfl rfl ⟨trivial, rfl, by simpa using hI⟩
        · have hcv := run_string_bytes w1 c (hr1.below hI.2.1)
          unfold txt at hcv
          refine opDoes_run (x := .string ⟨l.toArray⟩) rfl ?_ ⟨trivial, rfl, by simpa using hI⟩
          go_simp
        · refine opDoes_run (x := .agg #[.string ⟨l.toArray⟩, .int .i64 0]) rfl ?_ ⟨trivial, rfl, by simpa using hI⟩
          go_simp
        · obtain ⟨i1, i2, i3, i4, i5⟩ := hI
          have h7 : D 7 = false := by
            cases h : D 7
            · rfl
            · have := done_of hc 20 5 h (by kernel_rfl)
              rw [hf] at this
              cases this
          refine opDoes_run (x := .pointer (some ⟨w1.heap.size, 0, none⟩)) (w' := w1.alloc (.cells #[.string ⟨#[]⟩, .int .i64 0] 55)) rfl ?_ ⟨trivial, trivial, i1.alloc i1.size _, i2.alloc i2.size _, fun h => ?_, fun _ => ⟨w1.heap.size, by simp, i2.size, ?_⟩, fun h => ?_⟩
          · go_simp
          · have h1 : D 1 = true := by simpa using h
            obtain ⟨g, hv, hg, hrd⟩ := i3 h1
            exact ⟨g, by simpa using hv, hg, hrd.below ((Below.refl _ _).alloc (Nat.le_refl _) _)⟩
          · have h7' : (if 7 = 5 then true else D 7) = false := by simpa using h7
            simp only [h7', Bool.false_eq_true, if_false]
            show (w1.heap.push _)[w1.heap.size]? = _
            simp
          · simpa using i5 (by simpa using h)
        · obtain ⟨⟨h1, _⟩, _⟩ := hd
          obtain ⟨i1, i2, i3, i4, i5⟩ := hI
          refine opDoes_assign _ rfl rfl ⟨trivial, trivial, i1, i2, fun h => by simpa using i3 (by simpa using h), fun h => by simpa using i4 (by simpa using h), fun _ => ?_⟩
          rfl
        · have h5 := done_of hc 20 5 hd.1.1 (by kernel_rfl)
          obtain ⟨i1, i2, i3, i4, i5⟩ := hI
          obtain ⟨b, hv, hb1, hb2⟩ := i4 h5
          rw [hf] at hb2
          simp only [Bool.false_eq_true, if_false] at hb2
          have c0 := cell_of_row w1 _ 0 _ _ _ hb2
          have c1 := cell_of_row w1 _ 1 _ _ _ hb2
          have f0 := frozen_of_row w1 _ 0 _ _ hb2
          have f1 := frozen_of_row w1 _ 1 _ _ hb2
          simp at c0 c1
          have e1 := set_heap hb2 0 (.string ⟨l.toArray⟩)
          have e2 := set_heap e1 1 (.int .i64 0)
          simp at e1
          have HS : Hid (Below w.heap.size w ((w1.setCell ⟨b, 0, none⟩ (.string ⟨l.toArray⟩)).setCell ⟨b, 1, none⟩ (.int .i64 0))) := (i1.setCell (p := ⟨b, 0, none⟩) (by show w.heap.size ≤ b; omega) _).setCell (p := ⟨b, 1, none⟩) (by show w.heap.size ≤ b; omega) _
          have HS2 : Hid (Below wL.heap.size wL ((w1.setCell ⟨b, 0, none⟩ (.string ⟨l.toArray⟩)).setCell ⟨b, 1, none⟩ (.int .i64 0))) := (i2.setCell (p := ⟨b, 0, none⟩) hb1 _).setCell (p := ⟨b, 1, none⟩) hb1 _
          refine opDoes_skip rfl (w' := (w1.setCell ⟨b, 0, none⟩ (.string ⟨l.toArray⟩)).setCell ⟨b, 1, none⟩ (.int .i64 0)) ?_ ⟨trivial, trivial, HS.out, HS2.out, fun h => ?_, fun _ => ⟨b, by simpa using hv, hb1, ?_⟩, fun h => by simpa using i5 (by simpa using h)⟩
          · clear hb2 e1 e2 i1 i2 i3 i4 i5
            go_simp
          · obtain ⟨g, hg, hge, hrd⟩ := i3 (by simpa using h)
            have hne := rd_ne hrd hb2
            exact ⟨g, by simpa using hg, hge, rd_store (rd_store hrd hb2 hne _) e1 hne _⟩
          · rw [e2]
            simp
      case hend =>
        intro D v w4 hI h
        simp only [AllOps, Nat.zero_add, Nat.reduceAdd, and_true] at h
        obtain ⟨i1, i2, i3, i4, i5⟩ := hI
        obtain ⟨g, v1, hg, hrd⟩ := i3 h.2.1
        have h5 : D 5 = true := h.2.2.2.2.2.1
        have h7 : D 7 = true := h.2.2.2.2.2.2.2
        obtain ⟨b, v5, hb, hhb⟩ := i4 h5
        have v6 : v 6 = v 1 := i5 h.2.2.2.2.2.2.1
        rw [h7] at hhb
        simp only [if_true] at hhb
        rw [v6, v1, v5]
        have ho4 := ho1.below i2
        clear h v1 v5 v6 i3 i4 i5 h5 h7 i2 ho1 hr1
        have H4 : Hid (RD w4 g ⟨l, 0⟩ ∧ w4.heap[b]? = some (.cells #[.string ⟨l.toArray⟩, .int .i64 0] 55 (0, 0)) ∧ Below w.heap.size w w4 ∧ ORow w4 A2 ks) := ⟨hrd, hhb, i1, ho4⟩
        clear hrd hhb i1 ho4
        generalize hrL : (⟨l, 0⟩ : Wire.RS) = r0 at H4
        have hl0 : r0.l.length ≤ 2000 := by rw [← hrL]; simpa using h1
        have hstr : (⟨l.toArray⟩ : ByteArray) = ⟨r0.l.toArray⟩ := by rw [← hrL]
        have hze : (0 : Int) = r0.e := by rw [← hrL]
        rw [hstr, hze] at H4
        clear hstr hze hrL
        go_wp2_with fail
        go_loopw [31] (fun iv wr => ∃ (i : Nat) (r : Wire.RS), i ≤ ks.length ∧ iv = .int .i64 i ∧ r.l.length ≤ 2000 ∧
          Hid (RD wr g r ∧ wr.heap[b]? = some (.cells #[.string ⟨r.l.toArray⟩, .int .i64 r.e] 55 (0, 0)) ∧ Below w.heap.size w wr ∧ ORow wr A2 ks)) (fun iv _ => ks.length - (intOf iv).toNat)
        case atStart => exact ⟨0, r0, by omega, rfl, hl0, H4⟩
        case round =>
          obtain ⟨i, r, hi, rfl, hrl, HS⟩ := hrel
          clear H4 hl0
          by_cases hlt : i < ks.length
          · obtain ⟨hrd, hhb, hB, ho⟩ := HS.out
            obtain ⟨bo, o, rfl, _, hc⟩ := ho (by omega)
            obtain ⟨hc0, hc1⟩ := hc i hlt
            have hmo := HKS.out ks[i] (List.getElem_mem hlt)
            generalize ks[i] = km at hc0 hc1 hmo
            obtain ⟨k, m⟩ := km
            simp only at hc0 hc1 hmo
            have hlti : (i : Int) < (ks.length : Int) := by omega
            have c0 := cell_of_row wr _ 0 _ _ _ hhb
            have c1 := cell_of_row wr _ 1 _ _ _ hhb
            simp at c0 c1
            have hbs : b < wr.heap.size := (Array.getElem?_eq_some_iff.1 hhb).1
            have hne := rd_ne hrd hhb
            rw [← Nat.add_assoc] at hc1
            clear hc ho hhb hrd hB c0 c1
            have hz := HS.out.2.2.1.size
            have c0 : wr.cell? ⟨b, 0, none⟩ = some (.string ⟨r.l.toArray⟩) := by rw [cell_of_row wr _ 0 _ _ _ HS.out.2.1]; rfl
            have c1 : wr.cell? ⟨b, 1, none⟩ = some (.int .i64 r.e) := by rw [cell_of_row wr _ 1 _ _ _ HS.out.2.1]; rfl
            have hbx : Below wr.heap.size wr (wr.alloc (.cells #[.int .i64 k, .int .i64 m] 57)) := (Below.refl _ _).alloc (Nat.le_refl _) _
            have HX := Lib.hid hbx
            clear hbx
            go_wp2_with fail
            have hst := step_any (wr.alloc (.cells #[.int .i64 k, .int .i64 m] 57)) g r k m hmo (HS.out.1.below HX.out) (by omega)
            unfold rv txt opv at hst
            refine hst.mono ?_
            rintro e w5 ⟨rfl, hrd5, hgr5⟩
            have hlen := turn_len (Wire.kind k) m r
            generalize Wire.turn (Wire.kind k) m r = r5 at hrd5 hlen
            have hbl : b < (wr.alloc (.cells #[.int .i64 k, .int .i64 m] 57)).heap.size := Nat.lt_of_lt_of_le hbs HX.out.size
            have hb5 := (hgr5.block b hbl (by simpa using hne)).trans ((HX.out.block b hbs).trans HS.out.2.1)
            have hB5 : Below w.heap.size w w5 := (HS.out.2.2.1.trans (HX.out.mono hz)).grown hgr5 (Nat.le_trans hz HX.out.size) (fun k hk => by simp at hk; omega)
            have c50 := cell_of_row w5 _ 0 _ _ _ hb5
            have c51 := cell_of_row w5 _ 1 _ _ _ hb5
            have f50 := frozen_of_row w5 _ 0 _ _ hb5
            have f51 := frozen_of_row w5 _ 1 _ _ hb5
            have hbs5 : b < w5.heap.size := (Array.getElem?_eq_some_iff.1 hb5).1
            simp at c50 c51
            have HF := Lib.hid (And.intro hrd5 (And.intro hb5 hB5))
            clear hst hgr5 hrd5 hb5 hB5 c0 c1 hc0 hc1
            unfold rv txt
            go_wp2_with fail
            have HT : Hid (RD (((w5.setCell ⟨b, 0, none⟩ (.string ⟨r5.l.toArray⟩)).setCell ⟨b, 1, none⟩ (.int .i64 r5.e)).alloc (.cells #[.string ⟨r5.l.toArray⟩, .int .i64 r5.e] 55)) g r5 ∧ (((w5.setCell ⟨b, 0, none⟩ (.string ⟨r5.l.toArray⟩)).setCell ⟨b, 1, none⟩ (.int .i64 r5.e)).alloc (.cells #[.string ⟨r5.l.toArray⟩, .int .i64 r5.e] 55)).heap[b]? = some (.cells #[.string ⟨r5.l.toArray⟩, .int .i64 r5.e] 55 (0, 0)) ∧ Below w.heap.size w (((w5.setCell ⟨b, 0, none⟩ (.string ⟨r5.l.toArray⟩)).setCell ⟨b, 1, none⟩ (.int .i64 r5.e)).alloc (.cells #[.string ⟨r5.l.toArray⟩, .int .i64 r5.e] 55))) := by
              obtain ⟨hrd5, hb5, hB5⟩ := HF.out
              have e1 := set_heap hb5 0 (.string ⟨r5.l.toArray⟩)
              have e2 := set_heap e1 1 (.int .i64 r5.e)
              simp at e1 e2
              have hwb : w.heap.size ≤ b := by omega
              have ha : Below ((w5.setCell ⟨b, 0, none⟩ (.string ⟨r5.l.toArray⟩)).setCell ⟨b, 1, none⟩ (.int .i64 r5.e)).heap.size ((w5.setCell ⟨b, 0, none⟩ (.string ⟨r5.l.toArray⟩)).setCell ⟨b, 1, none⟩ (.int .i64 r5.e)) (((w5.setCell ⟨b, 0, none⟩ (.string ⟨r5.l.toArray⟩)).setCell ⟨b, 1, none⟩ (.int .i64 r5.e)).alloc (.cells #[.string ⟨r5.l.toArray⟩, .int .i64 r5.e] 55)) := (Below.refl _ _).alloc (Nat.le_refl _) _
              have hB6 := (hB5.setCell (p := ⟨b, 0, none⟩) hwb (.string ⟨r5.l.toArray⟩)).setCell (p := ⟨b, 1, none⟩) hwb (.int .i64 r5.e)
              exact ⟨(rd_store (rd_store hrd5 hb5 hne _) e1 hne _).below ha, (ha.block b (by simpa using hbs5)).trans e2, hB6.trans (ha.mono hB6.size)⟩
            generalize ((w5.setCell ⟨b, 0, none⟩ (.string ⟨r5.l.toArray⟩)).setCell ⟨b, 1, none⟩ (.int .i64 r5.e)).alloc (.cells #[.string ⟨r5.l.toArray⟩, .int .i64 r5.e] 55) = W9 at HT ⊢
            have c90 : W9.cell? ⟨b, 0, none⟩ = some (.string ⟨r5.l.toArray⟩) := by rw [cell_of_row W9 _ 0 _ _ _ HT.out.2.1]; rfl
            have c91 : W9.cell? ⟨b, 1, none⟩ = some (.int .i64 r5.e) := by rw [cell_of_row W9 _ 1 _ _ _ HT.out.2.1]; rfl
            have HE : Hid (∀ n, Calls Try.prog 28 #[.pointer (some ⟨g, 0, none⟩)] (W9.drewN n) fun e w' => e = .returned (.int .i64 r5.e) ∧ w' = W9.drewN n) := fun n => (rerr_any (W9.drewN n) g r5 HT.out.1).mono fun e w' h => ⟨h.1, h.2.symm⟩
            have HL : Hid (∀ n, Calls Try.prog 27 #[.pointer (some ⟨g, 0, none⟩)] (W9.drewN n) fun e w' => e = .returned (.int .i64 (r5.l.length : Nat)) ∧ w' = W9.drewN n) := fun n => (rleft_any (W9.drewN n) g r5 HT.out.1).mono fun e w' h => ⟨h.1, h.2.symm⟩
            clear c50 c51 f50 f51 hbs5 hbl HF
            go_quiet (first | (go_at_call 28; exact Calls.quiet_of_same (HE.out _)) | (go_at_call 27; exact Calls.quiet_of_same (HL.out _)))
            go_wp2_with fail
            go_roundw
            case rel => exact ⟨i + 1, r5, by omega, by go_num, by omega, HT.out.1, HT.out.2.1, ⟨HT.out.2.2.os, HT.out.2.2.tape, HT.out.2.2.output, HT.out.2.2.size, HT.out.2.2.block⟩, HO.out.below ⟨HT.out.2.2.os, HT.out.2.2.tape, HT.out.2.2.output, HT.out.2.2.size, HT.out.2.2.block⟩⟩
            case measure => simp [intOf]; omega
          · have hlti : ¬ (i : Int) < (ks.length : Int) := by omega
            go_wp2_with fail
            go_ret
            exact ⟨rfl, HS.out.2.2.1⟩
end Go.Proofs.Ytgdlfihiheeniaa
