/-
  The contracts of dowserref01.TakeInt, Count, TakeText, TakeBool, End.
-/
import Derived.Test.YtgdlfihiheeniaaWireTk
import Derived.Test.YtgdlfihiheeniaaWireRm
namespace Go.Proofs.Ytgdlfihiheeniaa
open Go.RowKit

theorem Ans.below {w w' : World} {v : Value} {e : Ending} (h : Ans w v e w') {B : Nat} {w0 : World} (hb : Below B w0 w) (hB : B ≤ w.heap.size) : Below B w0 w' := hb.trans (h.2.mono hB)

/-- Two new blocks of two cells each, behind a call. -/
theorem two_cells {w w1 : World} {a b c d : Value} {t u : TypeId} (hb : Below ((w.alloc (.cells #[a, b] t)).alloc (.cells #[c, d] u)).heap.size ((w.alloc (.cells #[a, b] t)).alloc (.cells #[c, d] u)) w1) :
    w1.cell? ⟨w.heap.size, 0, none⟩ = some a ∧ w1.cell? ⟨w.heap.size, 1, none⟩ = some b ∧ w1.cell? ⟨w.heap.size + 1, 0, none⟩ = some c ∧ w1.cell? ⟨w.heap.size + 1, 1, none⟩ = some d ∧
    w1.frozen? ⟨w.heap.size, 0, none⟩ = false ∧ w1.frozen? ⟨w.heap.size, 1, none⟩ = false ∧ w1.frozen? ⟨w.heap.size + 1, 0, none⟩ = false ∧ w1.frozen? ⟨w.heap.size + 1, 1, none⟩ = false ∧
    w.heap.size < w1.heap.size ∧ w.heap.size + 1 < w1.heap.size ∧ Below w.heap.size w w1 := by
  have hs := hb.size
  have e0 : w1.heap[w.heap.size]? = some (.cells #[a, b] t (0, 0)) := by
    rw [hb.block w.heap.size (by simp; omega)]
    show ((w.heap.push _).push _)[w.heap.size]? = _
    rw [Array.getElem?_push_lt (by simp)]
    simp
  have e1 : w1.heap[w.heap.size + 1]? = some (.cells #[c, d] u (0, 0)) := by
    rw [hb.block (w.heap.size + 1) (by simp)]
    show ((w.heap.push _).push _)[w.heap.size + 1]? = _
    rw [show w.heap.size + 1 = (w.heap.push (Obj.cells #[a, b] t)).size from by simp, Array.getElem?_push_size]
  simp at hs
  refine ⟨by rw [cell_of_row w1 _ 0 _ _ _ e0]; rfl, by rw [cell_of_row w1 _ 1 _ _ _ e0]; rfl, by rw [cell_of_row w1 _ 0 _ _ _ e1]; rfl, by rw [cell_of_row w1 _ 1 _ _ _ e1]; rfl,
    frozen_of_row w1 _ 0 _ _ e0, frozen_of_row w1 _ 1 _ _ e0, frozen_of_row w1 _ 0 _ _ e1, frozen_of_row w1 _ 1 _ _ e1, by omega, by omega, ?_⟩
  have h2 : Below w.heap.size w ((w.alloc (.cells #[a, b] t)).alloc (.cells #[c, d] u)) := ((Below.refl _ _).alloc (Nat.le_refl _) _).alloc (by simp) _
  exact h2.trans (hb.mono h2.size)

theorem below_res {w w1 : World} (hB : Below w.heap.size w w1) (x y : Value) (o : Obj) :
    Below w.heap.size w (((w1.setCell ⟨w.heap.size + 1, 0, none⟩ x).setCell ⟨w.heap.size + 1, 1, none⟩ y).alloc o) :=
  ((hB.setCell (p := ⟨w.heap.size + 1, 0, none⟩) (by simp) x).setCell (p := ⟨w.heap.size + 1, 1, none⟩) (by simp) y).alloc (by simpa using hB.size) o

set_option maxRecDepth 20000 in
set_option maxHeartbeats 1000000 in
theorem reftakeint_any (w : World) (r : Wire.RS) (hl : r.l.length ≤ 1000000) :
    Calls Try.prog 43 #[rv r] w (Ans w (.tuple #[rv (Wire.takeInt r).1, .int .i64 (Wire.takeInt r).2])) := by
  have HV : Hid ((Wire.takeInt r).2 = Wire.toInt (Wire.take r).2) := rfl
  have H1 : Hid ((Wire.takeInt r).1 = (Wire.take r).1) := rfl
  have hlt := Wire.take_lt r
  have HC := Lib.hid (fun w => reftake_any w r hl)
  obtain ⟨⟨⟨l1, e1⟩, n⟩, hx⟩ : ∃ x, Wire.take r = x := ⟨_, rfl⟩
  rw [hx] at hlt HV H1 HC
  clear hx
  simp only at hlt HV H1
  unfold rv txt at HC
  have HRV : Hid (rv ⟨l1, e1⟩ = .agg #[.string ⟨l1.toArray⟩, .int .i64 e1]) := rfl
  have hn2 : (n / 2 : Nat) ≤ 9223372036854775807 := by omega
  have hq : IntKind.u64.wrap ((n : Int) / 2) = ((n / 2 : Nat) : Int) := by rw [IntWalk.u64_in _ (by omega)]; omega
  have hm : ((n : Int) % 2 == 1) = decide (n % 2 = 1) := by
    by_cases e : n % 2 = 1
    · rw [decide_eq_true e]; simp; omega
    · rw [decide_eq_false e]; simp; omega
  clear hlt
  unfold rv txt
  by_cases hodd : n % 2 = 1
  · have hv : Wire.toInt n = -((n / 2 : Nat) : Int) - 1 := by unfold Wire.toInt; rw [if_pos hodd]
    rw [decide_eq_true hodd] at hm
    have HVV := Lib.hid hv
    have HQ := Lib.hid hq
    clear hv hodd hq
    generalize n / 2 = k at hn2 HVV HQ
    go_enter Try.func43, Try.ntmps43
    go_wp2_with fail
    refine (HC.out _).mono ?_
    rintro e w1 ⟨rfl, hb⟩
    obtain ⟨c0, c1, c2, c3, f0, f1, f2, f3, z0, z1, hB⟩ := two_cells hb
    clear hb
    have HBB := Lib.hid hB
    clear hB
    go_wp2_with fail
    refine ret_rv2 rfl rfl rfl rfl (by go_simp; all_goals rfl) (by go_simp; all_goals rfl) ?_
    rw [H1.out, HV.out, HVV.out, ← int_odd n k HQ.out hn2]
    exact ⟨rfl, below_res HBB.out _ _ _⟩
  · have hv : Wire.toInt n = ((n / 2 : Nat) : Int) := by unfold Wire.toInt; rw [if_neg hodd]
    rw [decide_eq_false hodd] at hm
    have HVV := Lib.hid hv
    have HQ := Lib.hid hq
    clear hv hodd hq
    generalize n / 2 = k at hn2 HVV HQ
    go_enter Try.func43, Try.ntmps43
    go_wp2_with fail
    refine (HC.out _).mono ?_
    rintro e w1 ⟨rfl, hb⟩
    obtain ⟨c0, c1, c2, c3, f0, f1, f2, f3, z0, z1, hB⟩ := two_cells hb
    clear hb
    have HBB := Lib.hid hB
    clear hB
    go_wp2_with fail
    refine ret_rv2 rfl rfl rfl rfl (by go_simp; all_goals rfl) (by go_simp; all_goals rfl) ?_
    rw [H1.out, HV.out, HVV.out, ← int_even n k HQ.out hn2]
    exact ⟨rfl, below_res HBB.out _ _ _⟩

set_option maxRecDepth 20000 in
set_option maxHeartbeats 1000000 in
theorem refcount_any (w : World) (r : Wire.RS) (most : Int) (hmo : most ≤ 9223372036854775807) (hl : r.l.length ≤ 1000000) :
    Calls Try.prog 44 #[rv r, .int .i64 most] w (Ans w (.tuple #[rv (Wire.count r most).1, .int .i64 ((Wire.count r most).2 : Nat)])) := by
  have hlt := Wire.take_lt r
  have HCO : Hid (Wire.count r most = if (Wire.take r).1.e ≠ 0 then ((Wire.take r).1, 0) else if most < 0 ∨ most < ((Wire.take r).2 : Int) then (⟨r.l, 11⟩, 0) else Wire.take r) := rfl
  have HC := Lib.hid (fun w => reftake_any w r hl)
  obtain ⟨⟨⟨l1, e1⟩, n⟩, hx⟩ : ∃ x, Wire.take r = x := ⟨_, rfl⟩
  rw [hx] at hlt HCO HC
  clear hx
  simp only at hlt HCO
  unfold rv txt at HC
  have HLT := Lib.hid hlt
  clear hlt
  unfold rv txt
  go_enter Try.func44, Try.ntmps44
  go_wp2_with fail
  refine (HC.out _).mono ?_
  rintro e w1 ⟨rfl, hb⟩
  obtain ⟨c0, c1, c2, c3, f0, f1, f2, f3, z0, z1, hB⟩ := two_cells hb
  clear hb
  have HBB := Lib.hid hB
  clear hB
  by_cases he : e1 = 0
  · have heb : (e1 != 0) = false := by simpa using he
    have HE := Lib.hid he
    clear he
    by_cases hm0 : most < 0
    · go_wp2_with fail
      refine ret_rv2 rfl rfl rfl rfl (by go_simp; all_goals rfl) (by go_simp; all_goals rfl) ?_
      rw [HCO.out, if_neg (by simpa using HE.out), if_pos (by omega)]
      exact ⟨rfl, below_res HBB.out _ _ _⟩
    · by_cases hmn : most < (n : Int)
      · go_wp2_with fail
        refine ret_rv2 rfl rfl rfl rfl (by go_simp; all_goals rfl) (by go_simp; all_goals rfl) ?_
        rw [HCO.out, if_neg (by simpa using HE.out), if_pos (by omega)]
        exact ⟨rfl, below_res HBB.out _ _ _⟩
      · go_wp2_with fail
        refine ret_rv2 rfl rfl rfl rfl (by go_simp; all_goals rfl) (by go_simp; all_goals rfl) ?_
        rw [HCO.out, if_neg (by simpa using HE.out), if_neg (by omega)]
        exact ⟨rfl, below_res HBB.out _ _ _⟩
  · have heb : (e1 != 0) = true := by simpa using he
    have HE := Lib.hid he
    clear he
    go_wp2_with fail
    refine ret_rv2 rfl rfl rfl rfl (by go_simp; all_goals rfl) (by go_simp; all_goals rfl) ?_
    rw [HCO.out, if_pos HE.out]
    exact ⟨rfl, below_res HBB.out _ _ _⟩

set_option maxRecDepth 20000 in
set_option maxHeartbeats 1000000 in
theorem reftakebool_any (w : World) (r : Wire.RS) (hl : r.l.length ≤ 1000000) :
    Calls Try.prog 46 #[rv r] w (Ans w (.tuple #[rv (Wire.takeBool r).1, .bool (Wire.takeBool r).2])) := by
  obtain ⟨l, e⟩ := r
  simp only at hl
  have hb2 : ∀ o o', Below w.heap.size w ((w.alloc o).alloc o') := fun o o' => ((Below.refl _ _).alloc (Nat.le_refl _) _).alloc (by simp) _
  have HB := Lib.hid hb2
  clear hb2
  by_cases he : e = 0
  · subst he
    cases l with
    | nil =>
      unfold rv txt
      go_enter Try.func46, Try.ntmps46
      go_wp2_with fail
      refine ret_rv2 rfl rfl rfl rfl (by go_simp; all_goals rfl) (by go_simp; all_goals rfl) ?_
      exact ⟨rfl, HB.out _ _⟩
    | cons x l =>
      have hxl := x.toNat_lt
      have HBT : Hid (Wire.takeBool ⟨x :: l, 0⟩ = if 1 < x.toNat then (⟨x :: l, 7⟩, false) else (⟨(x :: l).drop 1, 0⟩, x.toNat == 1)) := by
        show _ = _
        unfold Wire.takeBool
        rw [if_neg (by simp)]
        rfl
      obtain ⟨L, hL⟩ : ∃ L, x :: l = L := ⟨_, rfl⟩
      have hpos : 0 < L.length := by rw [← hL]; simp
      have hemp : L.isEmpty = false := by rw [← hL]; rfl
      have hidx0 : ∀ h, (ByteArray.mk L.toArray)[0]'h = x := by subst hL; intro h; rfl
      have hidx := hidx0 (by simpa [ByteArray.size] using hpos)
      rw [hL] at HBT hl ⊢
      clear hL hidx0
      have HD := Lib.hid (cut_end L 1)
      have hpos2 : (0 : Int) < (L.length : Int) := by omega
      obtain ⟨q, hq⟩ : ∃ q, x.toNat = q := ⟨_, rfl⟩
      rw [hq] at hxl HBT
      unfold rv txt
      simp only
      by_cases hgt : 1 < q
      · have hgt2 : (1 : Int) < (q : Int) := by omega
        go_enter Try.func46, Try.ntmps46
        go_wp2_with fail
        refine ret_rv2 rfl rfl rfl rfl (by go_simp; all_goals rfl) (by go_simp; all_goals rfl) ?_
        rw [HBT.out, if_pos hgt]
        exact ⟨rfl, HB.out _ _⟩
      · have hgt2 : ¬ (1 : Int) < (q : Int) := by omega
        go_enter Try.func46, Try.ntmps46
        go_wp2_with fail
        have hpos3 : (1 : Int) ≤ (L.length : Int) := by omega
        go_region
        all_goals go_wp2_with fail
        refine ret_rv2 rfl rfl rfl rfl (by go_simp; all_goals rfl) (by go_simp; all_goals rfl) ?_
        rw [HBT.out, if_neg hgt, HD.out, show ((q : Int) == 1) = (q == 1) from by
          by_cases e1 : q = 1
          · subst e1; rfl
          · rw [beq_eq_false_iff_ne.2 e1, beq_eq_false_iff_ne.2 (by omega)]]
        exact ⟨rfl, (HB.out _ _).drew⟩
  · have heb : (e != 0) = true := by simpa using he
    have HCE : Hid (Wire.takeBool ⟨l, e⟩ = (⟨l, e⟩, false)) := by
      show _ = _
      unfold Wire.takeBool
      rw [if_pos he]
    clear he
    unfold rv txt
    go_enter Try.func46, Try.ntmps46
    go_wp2_with fail
    refine ret_rv2 rfl rfl rfl rfl (by go_simp; all_goals rfl) (by go_simp; all_goals rfl) ?_
    rw [HCE.out]
    exact ⟨rfl, HB.out _ _⟩

set_option maxRecDepth 20000 in
set_option maxHeartbeats 1000000 in
theorem refend_any (w : World) (r : Wire.RS) (_hl : r.l.length ≤ 1000000) :
    Calls Try.prog 47 #[rv r] w (Ans w (rv (Wire.fin r))) := by
  obtain ⟨l, e⟩ := r
  have hb2 : ∀ o o', Below w.heap.size w ((w.alloc o).alloc o') := fun o o' => ((Below.refl _ _).alloc (Nat.le_refl _) _).alloc (by simp) _
  have HB := Lib.hid hb2
  clear hb2
  by_cases he : e = 0
  · subst he
    cases l with
    | nil =>
      unfold rv txt
      go_enter Try.func47, Try.ntmps47
      go_wp2_with fail
      refine ret_rv1 rfl rfl rfl (by go_simp; all_goals rfl) (by go_simp; all_goals rfl) ?_
      exact ⟨rfl, HB.out _ _⟩
    | cons x l =>
      have hne : (x :: l).isEmpty = false := rfl
      have HF : Hid (Wire.fin ⟨x :: l, 0⟩ = ⟨x :: l, 12⟩) := by show _ = _; unfold Wire.fin; rw [if_pos ⟨rfl, by simp⟩]
      unfold rv txt
      simp only
      generalize x :: l = L at *
      go_enter Try.func47, Try.ntmps47
      go_wp2_with fail
      refine ret_rv1 rfl rfl rfl (by go_simp; all_goals rfl) (by go_simp; all_goals rfl) ?_
      rw [HF.out]
      exact ⟨rfl, HB.out _ _⟩
  · have heb : (e == 0) = false := by simpa using he
    have HF : Hid (Wire.fin ⟨l, e⟩ = ⟨l, e⟩) := by show _ = _; unfold Wire.fin; rw [if_neg (fun h => he h.1)]
    clear he
    unfold rv txt
    go_enter Try.func47, Try.ntmps47
    go_wp2_with fail
    refine ret_rv1 rfl rfl rfl (by go_simp; all_goals rfl) (by go_simp; all_goals rfl) ?_
    rw [HF.out]
    exact ⟨rfl, HB.out _ _⟩

theorem cut_head (l : List UInt8) (n : Nat) : (ByteArray.mk l.toArray).extract 0 n = ⟨(l.take n).toArray⟩ := by
  apply ByteArray.ext
  simp

set_option maxRecDepth 20000 in
set_option maxHeartbeats 1000000 in
theorem reftaketext_any (w : World) (r : Wire.RS) (most : Int) (hmo : most ≤ 9223372036854775807) (hl : r.l.length ≤ 1000000) :
    Calls Try.prog 45 #[rv r, .int .i64 most] w (Ans w (.tuple #[rv (Wire.takeText r most).1, txt (Wire.takeText r most).2])) := by
  have hnb := Wire.count_lt r most hmo
  have HCO : Hid (Wire.takeText r most = if (Wire.count r most).1.e ≠ 0 then ((Wire.count r most).1, []) else if (Wire.count r most).1.l.length < (Wire.count r most).2 then (⟨r.l, 10⟩, [])
      else (⟨(Wire.count r most).1.l.drop (Wire.count r most).2, 0⟩, (Wire.count r most).1.l.take (Wire.count r most).2)) := rfl
  have HC := Lib.hid (fun w => refcount_any w r most hmo hl)
  have hle : (Wire.count r most).1.l.length ≤ 1000000 := by
    have := Wire.take_len r
    unfold Wire.count
    split
    · exact Nat.le_trans this hl
    · split
      · exact hl
      · exact Nat.le_trans this hl
  obtain ⟨⟨⟨l1, e1⟩, n⟩, hx⟩ : ∃ x, Wire.count r most = x := ⟨_, rfl⟩
  rw [hx] at hnb HCO HC hle
  clear hx
  simp only at hnb HCO hle
  unfold rv txt at HC
  unfold rv txt
  go_enter Try.func45, Try.ntmps45
  go_wp2_with fail
  refine (HC.out _).mono ?_
  rintro e w1 ⟨rfl, hb⟩
  obtain ⟨c0, c1, c2, c3, f0, f1, f2, f3, z0, z1, hB⟩ := two_cells hb
  clear hb
  have HBB := Lib.hid hB
  clear hB
  by_cases he : e1 = 0
  · have heb : (e1 != 0) = false := by simpa using he
    have HE := Lib.hid he
    clear he
    by_cases hm : l1.length < n
    · have hm2 : (l1.length : Int) < (n : Int) := by omega
      go_wp2_with fail
      refine ret_rv2 rfl rfl rfl rfl (by go_simp; all_goals rfl) (by go_simp; all_goals rfl) ?_
      rw [HCO.out, if_neg (by simpa using HE.out), if_pos hm]
      exact ⟨rfl, below_res HBB.out _ _ _⟩
    · have hm2 : ¬ (l1.length : Int) < (n : Int) := by omega
      have HD := Lib.hid (cut_end l1 n)
      have HH := Lib.hid (cut_head l1 n)
      go_wp2_with fail
      have hm3 : (n : Int) ≤ (l1.length : Int) := by omega
      have hm4 : n ≤ l1.length := by omega
      go_region
      all_goals go_wp2_with fail
      refine ret_rv2 rfl rfl rfl rfl (by go_simp; all_goals rfl) (by go_simp; all_goals rfl) ?_
      rw [HCO.out, if_neg (by simpa using HE.out), if_neg hm, HD.out, HH.out]
      first
        | exact ⟨rfl, (below_res HBB.out _ _ _).drew⟩
        | exact ⟨rfl, below_res HBB.out _ _ _⟩
  · have heb : (e1 != 0) = true := by simpa using he
    have HE := Lib.hid he
    clear he
    go_wp2_with fail
    refine ret_rv2 rfl rfl rfl rfl (by go_simp; all_goals rfl) (by go_simp; all_goals rfl) ?_
    rw [HCO.out, if_pos HE.out]
    exact ⟨rfl, below_res HBB.out _ _ _⟩
end Go.Proofs.Ytgdlfihiheeniaa
