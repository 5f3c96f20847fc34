/-
  The contracts of wire.Reader's other methods, of a reader that is one.
-/
import Derived.Test.YtgdlfihiheeniaaWireRn
namespace Go.Proofs.Ytgdlfihiheeniaa
open Go.RowKit

theorem rd_open {w : World} {g : Nat} {r : Wire.RS} (h : RD w g r) : ∃ A c, w.cell? ⟨g, 0, none⟩ = some (.slice A r.l.length c) ∧ w.cell? ⟨g, 1, none⟩ = some (.int .i64 r.e) ∧ w.frozen? ⟨g, 0, none⟩ = false ∧ w.frozen? ⟨g, 1, none⟩ = false ∧ BRow w A r.l ∧ r.l.length ≤ c ∧ c ≤ 9223372036854775807 ∧
    Hid (w.heap[g]? = some (.cells #[.slice A r.l.length c, .int .i64 r.e] 70 (0, 0))) := by
  obtain ⟨A, c, hg, hr, h1, h2⟩ := h
  exact ⟨A, c, by rw [cell_of_row w g 0 _ _ _ hg]; rfl, by rw [cell_of_row w g 1 _ _ _ hg]; rfl, frozen_of_row w g 0 _ _ hg, frozen_of_row w g 1 _ _ hg, hr, h1, h2, hg⟩

theorem row_grown {w w1 : World} {g : Nat} {A A' : Option Addr} {n c : Nat} {e : Int} {t : TypeId} {l : List UInt8} (hg : w.heap[g]? = some (.cells #[.slice A' n c, .int .i64 e] t (0, 0))) (hr : BRow w A l) (h : w.grownBy w1 (some g)) : BRow w1 A l := by
  cases l with
  | nil => exact BRow.nil
  | cons x l =>
    have hne := row_ne hg hr (by simp)
    intro hl
    obtain ⟨b, o, rfl, hlt, hc⟩ := hr hl
    refine ⟨b, o, rfl, Nat.lt_of_lt_of_le hlt h.size, fun j hj => ?_⟩
    rw [← hc j hj]
    exact World.cell?_of_block (h.block b hlt (fun e => hne _ rfl (by simpa using e)))
theorem int_odd (n k : Nat) (hq : IntKind.u64.wrap ((n : Int) / 2) = (k : Int)) (hk : k ≤ 9223372036854775807) : wrap64 (wrap64 (-wrap64 (IntKind.u64.wrap ((n : Int) / 2))) - 1) = -(k : Int) - 1 := by
  rw [hq, IntWalk.wrap64_in (k : Int) (by omega), IntWalk.wrap64_in (-(k : Int)) (by omega), IntWalk.wrap64_in _ (by omega)]
theorem int_even (n k : Nat) (hq : IntKind.u64.wrap ((n : Int) / 2) = (k : Int)) (hk : k ≤ 9223372036854775807) : wrap64 (IntKind.u64.wrap ((n : Int) / 2)) = (k : Int) := by
  rw [hq, IntWalk.wrap64_in (k : Int) (by omega)]

set_option maxRecDepth 20000 in
set_option maxHeartbeats 400000 in
theorem rint_any (w : World) (g : Nat) (r : Wire.RS) (h : RD w g r) : Calls Try.prog 35 #[.pointer (some ⟨g, 0, none⟩)] w (Did w g (.int .i64 (Wire.takeInt r).2) (Wire.takeInt r).1) := by
  have HV : Hid ((Wire.takeInt r).2 = Wire.toInt (Wire.take r).2) := rfl
  have H1 : Hid ((Wire.takeInt r).1 = (Wire.take r).1) := rfl
  have hlt := Wire.take_lt r
  have HC := Lib.hid (rnum_any w g r h)
  generalize (Wire.take r).2 = n at hlt HV HC
  have hn2 : (n / 2 : Nat) ≤ 9223372036854775807 := by omega
  have hq : IntKind.u64.wrap ((n : Int) / 2) = ((n / 2 : Nat) : Int) := by rw [IntWalk.u64_in _ (by omega)]; omega
  have hm : ((n : Int) % 2 == 1) = decide (n % 2 = 1) := by
    by_cases e : n % 2 = 1
    · rw [decide_eq_true e]; simp; omega
    · rw [decide_eq_false e]; simp; omega
  clear hlt
  by_cases hodd : n % 2 = 1
  · have hv : Wire.toInt n = -((n / 2 : Nat) : Int) - 1 := by unfold Wire.toInt; rw [if_pos hodd]
    rw [decide_eq_true hodd] at hm
    have HVV := Lib.hid hv
    have HQ := Lib.hid hq
    clear hv hodd hq
    generalize n / 2 = k at hn2 HVV HQ
    go_enter Try.func35, Try.ntmps35
    go_wp2_with fail
    refine HC.out.mono ?_
    rintro e w1 ⟨rfl, hrd, hgr⟩
    go_wp2_with fail
    go_ret
    refine ⟨?_, by rw [H1.out]; exact hrd, hgr⟩
    rw [HV.out, HVV.out, ← int_odd n k HQ.out hn2]
    rfl
  · have hv : Wire.toInt n = ((n / 2 : Nat) : Int) := by unfold Wire.toInt; rw [if_neg hodd]
    rw [decide_eq_false hodd] at hm
    have HVV := Lib.hid hv
    have HQ := Lib.hid hq
    clear hv hodd hq
    generalize n / 2 = k at hn2 HVV HQ
    go_enter Try.func35, Try.ntmps35
    go_wp2_with fail
    refine HC.out.mono ?_
    rintro e w1 ⟨rfl, hrd, hgr⟩
    go_wp2_with fail
    go_ret
    refine ⟨?_, by rw [H1.out]; exact hrd, hgr⟩
    rw [HV.out, HVV.out, ← int_even n k HQ.out hn2]
    rfl

theorem take_of_err {r : Wire.RS} (h : r.e ≠ 0) : Wire.take r = (r, 0) := by unfold Wire.take; rw [if_pos h]
theorem count_of_err {r : Wire.RS} {most : Int} (h : r.e ≠ 0) : Wire.count r most = (r, 0) := by unfold Wire.count; rw [take_of_err h, if_pos h]

set_option maxRecDepth 20000 in
set_option maxHeartbeats 1000000 in
theorem rcount_any (w : World) (g : Nat) (r : Wire.RS) (most : Int) (hmo : most ≤ 9223372036854775807) (h : RD w g r) :
    Calls Try.prog 36 #[.pointer (some ⟨g, 0, none⟩), .int .i64 most] w (Did w g (.int .i64 ((Wire.count r most).2 : Nat)) (Wire.count r most).1) := by
  have HRD := Lib.hid h
  have HC := Lib.hid (rnum_any w g r h)
  have HE := Lib.hid (rerr_any w g r h)
  obtain ⟨A, c, c0, c1, f0, f1, hr, h1, h2, HG⟩ := rd_open h
  clear h
  by_cases he : r.e = 0
  · have HE0 := Lib.hid he
    have heb : (r.e != 0) = false := by simpa using he
    have hlt := Wire.take_lt r
    have HCO : Hid (Wire.count r most = if (Wire.take r).1.e ≠ 0 then ((Wire.take r).1, 0) else if most < 0 ∨ most < ((Wire.take r).2 : Int) then (⟨r.l, 11⟩, 0) else Wire.take r) := rfl
    have HTE := Lib.hid (Wire.take_err r)
    have HT0 : Hid (∀ x, (Wire.take r).1.e ≠ 0 → Wire.take r = x → x.2 = 0) := by
      intro x hx hxx
      rw [← hxx]
      unfold Wire.take at hx ⊢
      split
      · rfl
      · split
        · rfl
        · rename_i a b
          rw [if_neg a, if_neg b] at hx
          simp at hx
    obtain ⟨⟨r1, n⟩, hx⟩ : ∃ x, Wire.take r = x := ⟨_, rfl⟩
    rw [hx] at HCO HC HTE hlt HT0
    clear hx he
    have HLT := Lib.hid hlt
    clear hlt
    by_cases ht : r1.e = 0
    · have htb : (r1.e == 0) = true := by simpa using ht
      have HT := Lib.hid ht
      clear ht
      go_enter Try.func36, Try.ntmps36
      go_wp2_with fail
      refine HE.out.mono ?_
      rintro e w1 ⟨rfl, rfl⟩
      go_wp2_with fail
      refine HC.out.mono ?_
      rintro e w1 ⟨rfl, hrd, hgr⟩
      have HRD1 := Lib.hid hrd
      obtain ⟨A1, d1, c01, c11, f01, f11, hr1, h11, h21, HG1⟩ := rd_open hrd
      clear hrd
      by_cases hm0 : most < 0
      · go_wp2_with fail
        go_ret
        rw [HCO.out, if_neg (by simpa using HT.out), if_pos (by omega)]
        exact ⟨rfl, RD.both HG1.out (row_grown HG.out hr hgr) h1 h2 11, grown_trans hgr (grown_trans (set_grown _ _ _ _) (set_grown _ _ _ _))⟩
      · by_cases hmn : most < (n : Int)
        · go_wp2_with fail
          go_ret
          rw [HCO.out, if_neg (by simpa using HT.out), if_pos (by omega)]
          exact ⟨rfl, RD.both HG1.out (row_grown HG.out hr hgr) h1 h2 11, grown_trans hgr (grown_trans (set_grown _ _ _ _) (set_grown _ _ _ _))⟩
        · go_wp2_with fail
          go_ret
          rw [HCO.out, if_neg (by simpa using HT.out), if_neg (by omega)]
          exact ⟨rfl, HRD1.out, hgr⟩
    · have htb : (r1.e == 0) = false := by simpa using ht
      have HT := Lib.hid ht
      have hn0 : n = 0 := HT0.out _ ht rfl
      have hn0l : n ≤ 0 := by omega
      have HN0 := Lib.hid hn0
      clear ht hn0
      go_enter Try.func36, Try.ntmps36
      go_wp2_with fail
      refine HE.out.mono ?_
      rintro e w1 ⟨rfl, rfl⟩
      go_wp2_with fail
      refine HC.out.mono ?_
      rintro e w1 ⟨rfl, hrd, hgr⟩
      have HRD1 := Lib.hid hrd
      obtain ⟨A1, d1, c01, c11, f01, f11, hr1, h11, h21, HG1⟩ := rd_open hrd
      clear hrd
      go_wp2_with fail
      go_ret
      rw [HCO.out, if_pos HT.out]
      exact ⟨by rw [HN0.out]; rfl, HRD1.out, hgr⟩
  · have heb : (r.e != 0) = true := by simpa using he
    have HCE := Lib.hid (count_of_err (most := most) he)
    clear he
    go_enter Try.func36, Try.ntmps36
    go_wp2_with fail
    refine HE.out.mono ?_
    rintro e w1 ⟨rfl, rfl⟩
    go_wp2_with fail
    go_ret
    rw [HCE.out]
    exact ⟨rfl, HRD.out, World.grownBy.refl _ _⟩

set_option maxRecDepth 20000 in
set_option maxHeartbeats 1000000 in
theorem rtext_any (w : World) (g : Nat) (r : Wire.RS) (most : Int) (hmo : most ≤ 9223372036854775807) (h : RD w g r) :
    Calls Try.prog 30 #[.pointer (some ⟨g, 0, none⟩), .int .i64 most] w (Did w g (txt (Wire.takeText r most).2) (Wire.takeText r most).1) := by
  have HRD := Lib.hid h
  have HC := Lib.hid (rcount_any w g r most hmo h)
  have HE := Lib.hid (rerr_any w g r h)
  obtain ⟨A, c, c0, c1, f0, f1, hr, h1, h2, HG⟩ := rd_open h
  clear h
  by_cases he : r.e = 0
  · have heb : (r.e != 0) = false := by simpa using he
    have HCO : Hid (Wire.takeText r most = if (Wire.count r most).1.e ≠ 0 then ((Wire.count r most).1, []) else if (Wire.count r most).1.l.length < (Wire.count r most).2 then (⟨r.l, 10⟩, [])
      else (⟨(Wire.count r most).1.l.drop (Wire.count r most).2, 0⟩, (Wire.count r most).1.l.take (Wire.count r most).2)) := rfl
    obtain ⟨⟨r1, n⟩, hx⟩ : ∃ x, Wire.count r most = x := ⟨_, rfl⟩
    have hnb := Wire.count_lt r most hmo
    rw [hx] at HCO HC hnb
    clear hx he
    simp only at hnb
    by_cases ht : r1.e = 0
    · have htb : (r1.e != 0) = false := by simpa using ht
      have HT := Lib.hid ht
      clear ht
      go_enter Try.func30, Try.ntmps30
      go_wp2_with fail
      refine HE.out.mono ?_
      rintro e w1 ⟨rfl, rfl⟩
      go_wp2_with fail
      refine HC.out.mono ?_
      rintro e w1 ⟨rfl, hrd, hgr⟩
      have HRD1 := Lib.hid hrd
      obtain ⟨A1, d1, c01, c11, f01, f11, hr1, h11, h21, HG1⟩ := rd_open hrd
      clear hrd
      by_cases hl : r1.l.length < n
      · go_wp2_with fail
        go_ret
        rw [HCO.out, if_neg (by simpa using HT.out), if_pos hl]
        exact ⟨rfl, RD.both HG1.out (row_grown HG.out hr hgr) h1 h2 10, grown_trans hgr (grown_trans (set_grown _ _ _ _) (set_grown _ _ _ _))⟩
      · have hcv := run_string_bytes w1 d1 (hr1.take n)
        rw [List.length_take_of_le (by omega)] at hcv
        go_wp2_with fail
        all_goals
          go_ret
          rw [HCO.out, if_neg (by simpa using HT.out), if_neg hl]
          refine ⟨rfl, ?_, grown_trans hgr (set_grown _ _ _ _)⟩
          rw [← HT.out]
          refine RD.cut HG1.out ?_ (by omega) (by omega)
          first | exact hr1.drop n | exact row_end (by omega)
    · have htb : (r1.e != 0) = true := by simpa using ht
      have HT := Lib.hid ht
      clear ht
      go_enter Try.func30, Try.ntmps30
      go_wp2_with fail
      refine HE.out.mono ?_
      rintro e w1 ⟨rfl, rfl⟩
      go_wp2_with fail
      refine HC.out.mono ?_
      rintro e w1 ⟨rfl, hrd, hgr⟩
      have HRD1 := Lib.hid hrd
      obtain ⟨A1, d1, c01, c11, f01, f11, hr1, h11, h21, HG1⟩ := rd_open hrd
      clear hrd
      go_wp2_with fail
      go_ret
      rw [HCO.out, if_pos HT.out]
      exact ⟨rfl, HRD1.out, hgr⟩
  · have heb : (r.e != 0) = true := by simpa using he
    have HCE : Hid (Wire.takeText r most = (r, [])) := by
      show _ = _
      unfold Wire.takeText
      rw [count_of_err he, if_pos he]
    clear he
    go_enter Try.func30, Try.ntmps30
    go_wp2_with fail
    refine HE.out.mono ?_
    rintro e w1 ⟨rfl, rfl⟩
    go_wp2_with fail
    go_ret
    rw [HCE.out]
    exact ⟨rfl, HRD.out, World.grownBy.refl _ _⟩

set_option maxRecDepth 20000 in
set_option maxHeartbeats 1000000 in
theorem rbool_any (w : World) (g : Nat) (r : Wire.RS) (h : RD w g r) :
    Calls Try.prog 37 #[.pointer (some ⟨g, 0, none⟩)] w (Did w g (.bool (Wire.takeBool r).2) (Wire.takeBool r).1) := by
  have HRD := Lib.hid h
  have HE := Lib.hid (rerr_any w g r h)
  obtain ⟨A, c, c0, c1, f0, f1, hr, h1, h2, HG⟩ := rd_open h
  clear h
  obtain ⟨l, e⟩ := r
  simp only at c0 c1 hr h1 HG HE HRD
  by_cases he : e = 0
  · subst he
    cases l with
    | nil =>
      simp only [List.length_nil] at c0 h1
      go_enter Try.func37, Try.ntmps37
      go_wp2_with fail
      refine HE.out.mono ?_
      rintro e w1 ⟨rfl, rfl⟩
      go_wp2_with fail
      go_ret
      exact ⟨rfl, RD.err HG.out hr h1 h2 10, set_grown _ _ _ _⟩
    | cons x l =>
      have hk : 0 < (x :: l).length := by simp
      obtain ⟨b, o, rfl, _, hc⟩ := hr.at_ hk
      have hxl := x.toNat_lt
      simp only [List.getElem_cons_zero, Nat.add_zero] at hc
      have HX : Hid (x.toNat = x.toNat) := rfl
      obtain ⟨q, hq⟩ : ∃ q, x.toNat = q := ⟨_, rfl⟩
      rw [hq] at hc hxl
      have HQ := Lib.hid hq
      obtain ⟨n, hn⟩ : ∃ n, (x :: l).length = n := ⟨_, rfl⟩
      rw [hn] at c0 h1 hk HG
      have HN := Lib.hid hn
      clear hn hq
      by_cases hgt : 1 < q
      · go_enter Try.func37, Try.ntmps37
        go_wp2_with fail
        refine HE.out.mono ?_
        rintro e w1 ⟨rfl, rfl⟩
        go_wp2_with fail
        go_ret
        have hb : Wire.takeBool ⟨x :: l, 0⟩ = (⟨x :: l, 7⟩, false) := by
          unfold Wire.takeBool
          rw [if_neg (by simp)]
          simp only
          rw [if_pos (by rw [HQ.out]; exact hgt)]
        rw [hb]
        have hg := HG.out
        rw [← HN.out] at hg h1
        exact ⟨rfl, RD.err hg hr h1 h2 7, set_grown _ _ _ _⟩
      · have hb : Wire.takeBool ⟨x :: l, 0⟩ = (⟨l, 0⟩, (q : Int) == 1) := by
          unfold Wire.takeBool
          rw [if_neg (by simp)]
          simp only
          rw [if_neg (by rw [HQ.out]; exact hgt), HQ.out]
          congr 1
          by_cases e1 : q = 1
          · subst e1; rfl
          · rw [beq_eq_false_iff_ne.2 e1, beq_eq_false_iff_ne.2 (by omega)]
        have HB := Lib.hid hb
        clear hb
        go_enter Try.func37, Try.ntmps37
        go_wp2_with fail
        refine HE.out.mono ?_
        rintro e w1 ⟨rfl, rfl⟩
        go_wp2_with fail
        all_goals
          go_ret
          rw [HB.out]
          refine ⟨rfl, ?_, set_grown _ _ _ _⟩
          have hn := HN.out
          subst hn
          refine RD.cut (k := 1) (l := x :: l) HG.out ?_ (by omega) (by omega)
          first | exact row_cut hr | exact row_end (by omega)
  · have heb : (e != 0) = true := by simpa using he
    have HCE : Hid (Wire.takeBool ⟨l, e⟩ = (⟨l, e⟩, false)) := by
      show _ = _
      unfold Wire.takeBool
      rw [if_pos he]
    clear he
    go_enter Try.func37, Try.ntmps37
    go_wp2_with fail
    refine HE.out.mono ?_
    rintro e w1 ⟨rfl, rfl⟩
    go_wp2_with fail
    go_ret
    rw [HCE.out]
    exact ⟨rfl, HRD.out, World.grownBy.refl _ _⟩

set_option maxRecDepth 20000 in
set_option maxHeartbeats 1000000 in
theorem rend_any (w : World) (g : Nat) (r : Wire.RS) (h : RD w g r) :
    Calls Try.prog 32 #[.pointer (some ⟨g, 0, none⟩)] w (Did w g (.int .i64 (Wire.fin r).e) (Wire.fin r)) := by
  have HRD := Lib.hid h
  have HE := Lib.hid (rerr_any w g r h)
  obtain ⟨A, c, c0, c1, f0, f1, hr, h1, h2, HG⟩ := rd_open h
  clear h
  obtain ⟨l, e⟩ := r
  simp only at c0 c1 hr h1 HG HE HRD
  by_cases hf : e = 0 ∧ l ≠ []
  · obtain ⟨rfl, hl⟩ := hf
    have hpos : 0 < l.length := List.length_pos_iff.2 hl
    have HF : Hid (Wire.fin ⟨l, 0⟩ = ⟨l, 12⟩) := by show _ = _; unfold Wire.fin; rw [if_pos ⟨rfl, hl⟩]
    clear hl
    go_enter Try.func32, Try.ntmps32
    go_wp2_with fail
    refine HE.out.mono ?_
    rintro e w1 ⟨rfl, rfl⟩
    go_wp2_with fail
    have hrd := RD.err HG.out hr h1 h2 12
    refine (rerr_any _ g _ hrd).mono ?_
    rintro e w1 ⟨rfl, rfl⟩
    go_wp2_with fail
    go_ret
    rw [HF.out]
    exact ⟨rfl, hrd, set_grown _ _ _ _⟩
  · have HF : Hid (Wire.fin ⟨l, e⟩ = ⟨l, e⟩) := by show _ = _; unfold Wire.fin; rw [if_neg hf]
    by_cases he : e = 0
    · subst he
      have hl : l = [] := Classical.byContradiction fun h => hf ⟨rfl, h⟩
      subst hl
      simp only [List.length_nil] at c0 h1
      clear hf
      go_enter Try.func32, Try.ntmps32
      go_wp2_with fail
      refine HE.out.mono ?_
      rintro e w1 ⟨rfl, rfl⟩
      go_wp2_with fail
      refine HE.out.mono ?_
      rintro e w1 ⟨rfl, rfl⟩
      go_wp2_with fail
      go_ret
      rw [HF.out]
      exact ⟨rfl, HRD.out, World.grownBy.refl _ _⟩
    · have heb : (e == 0) = false := by simpa using he
      clear he hf
      go_enter Try.func32, Try.ntmps32
      go_wp2_with fail
      refine HE.out.mono ?_
      rintro e w1 ⟨rfl, rfl⟩
      go_wp2_with fail
      refine HE.out.mono ?_
      rintro e w1 ⟨rfl, rfl⟩
      go_wp2_with fail
      go_ret
      rw [HF.out]
      exact ⟨rfl, HRD.out, World.grownBy.refl _ _⟩

set_option maxRecDepth 20000 in
set_option maxHeartbeats 1000000 in
theorem rFail_any (w : World) (g : Nat) (r : Wire.RS) (e' : Int) (h : RD w g r) :
    Calls Try.prog 34 #[.pointer (some ⟨g, 0, none⟩), .int .i64 e'] w (Did w g (.tuple #[]) (Wire.fail r e')) := by
  have HRD := Lib.hid h
  obtain ⟨A, c, c0, c1, f0, f1, hr, h1, h2, HG⟩ := rd_open h
  clear h
  obtain ⟨l, e⟩ := r
  simp only at c0 c1 hr h1 HG HRD
  by_cases he : e = 0
  · subst he
    go_enter Try.func34, Try.ntmps34
    go_wp2_with fail
    go_end0
    exact ⟨rfl, RD.err HG.out hr h1 h2 e', set_grown _ _ _ _⟩
  · have heb : (e == 0) = false := by simpa using he
    have HF : Hid (Wire.fail ⟨l, e⟩ e' = ⟨l, e⟩) := by show _ = _; unfold Wire.fail; rw [if_neg he]
    clear he
    go_enter Try.func34, Try.ntmps34
    go_wp2_with fail
    go_end0
    rw [HF.out]
    exact ⟨rfl, HRD.out, World.grownBy.refl _ _⟩
end Go.Proofs.Ytgdlfihiheeniaa
